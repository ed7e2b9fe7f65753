/- The entry of bytes (Get). Condition: they are the bytes of one of the entries that the law makes. -/
import Derived.Test.YthfjhgdiakciaaaGreatM05
namespace Go.Proofs.YthfjhgdiakciaaaGreat.Bl
open Go.RowKit
set_option linter.unusedVariables false
set_option linter.unusedSimpArgs false
theorem Rd.keep {W W' : World} {base p g : Nat} {x : List Int} {sh : Bool} (h : Rd W base p g x sh) (hp : W'.heap[p]? = W.heap[p]?) (hg : W'.heap[g]? = W.heap[g]?) (hs : W.heap.size ≤ W'.heap.size) : Rd W' base p g x sh := by
 obtain ⟨A, c, h⟩ := h
 obtain ⟨o, e, h1, h2, h3, h4⟩ := h.at_
 exact ⟨A, c, h.lo, h.cap, hp.trans h.blk, h.ok, o, e, h1, h2, by omega, range_heap h4 hg⟩
theorem Rd.lts {W : World} {base p g : Nat} {x : List Int} {sh : Bool} (h : Rd W base p g x sh) : base ≤ p ∧ base ≤ g ∧ p < W.heap.size ∧ g < W.heap.size := by
 obtain ⟨A, c, h⟩ := h
 obtain ⟨o, e, h1, h2, h3, h4⟩ := h.at_
 exact ⟨h.lo, h1, blk_lt h.blk, h3⟩
theorem Rd.set {W : World} {base p g b i : Nat} {x : List Int} {sh : Bool} {v : Value} (h : Rd W base p g x sh) (hp : p ≠ b) (hg : g ≠ b) : Rd (W.setCell ⟨b, i, none⟩ v) base p g x sh :=
 h.keep (Below.heap_setCell _ _ _ _ hp) (Below.heap_setCell _ _ _ _ hg) (by simp)
theorem Rd.alloc {W : World} {base p g : Nat} {x : List Int} {sh : Bool} (h : Rd W base p g x sh) (o : Obj) : Rd (W.alloc o) base p g x sh :=
 h.keep (Below.heap_alloc _ _ _ h.lts.2.2.1) (Below.heap_alloc _ _ _ h.lts.2.2.2) (by simp)
theorem own_high {W : World} {base base' e size n : Nat} {v : Value} {xs : List Value} (h : W.ownsRow base' e size v n xs) (hb : base ≤ base') : W.ownsRow base e size v n xs := by
 obtain ⟨a1, a2⟩ := h
 refine ⟨a1, ?_⟩
 rcases a2 with a2 | ⟨g', cp, cur, e, b1, b2⟩
 ·exact .inl a2
 ·exact .inr ⟨g', cp, cur, e, by omega, b2⟩
def zero41 : Array Value := #[.int .i64 0, .int .u64 0, .int .u32 0, .int .u32 0, .int .i64 0, .bool false, .int .i64 0, .int .i64 0, .int .u64 0, .slice none 0 0, .slice none 0 0]
theorem results_cell_tmp_row {P : Program} {fn : Func} {p u : Tmp} {ty : TypeId} (h : fn.results = #[.cell p ty, .tmp u]) (tmps : Array Value) (w : World) (g : Nat) (t : TypeId) (cs : Array Value) (fr : Nat × Nat) (d : TypeDesc)
  (hp : tmps.getD p undef = .pointer (some ⟨g, 0, none⟩)) (hg : w.heap[g]? = some (.cells cs t fr))
  (hu : P.underlying ty = some d) (hd : (match d with | .struct _ | .array _ _ => true | _ => false) = true) (hi : (P.info? ty).map (·.size) = some cs.size) :
  (results fn tmps).run P w = .ok (.tuple #[.agg cs, tmps.getD u undef]) w := by
 rw [results_cell_tmp h, hp]
 simp [asAddr, run_loadVar_row w g t ty cs fr d hg hu hd hi, Result.andThen]
theorem row_over {W : World} {r t : Nat} {xs : Array Value} {vs : List Value} (h : W.heap[r]? = some (.cells xs t (0, 0))) (hl : vs.length = xs.size) : (W.setCells r 0 vs).heap[r]? = some (.cells vs.toArray t (0, 0)) := by
 have := setCells_same vs r 0 W xs.toList h
 rwa [putAt_whole _ _ (by rw [hl]; simp)] at this
theorem agg11_one {v0 v1 v2 v3 v4 v5 v6 v7 v8 v9 v10 : Value} (h0 : v0.oneCell' = true) (h1 : v1.oneCell' = true) (h2 : v2.oneCell' = true) (h3 : v3.oneCell' = true) (h4 : v4.oneCell' = true) (h5 : v5.oneCell' = true) (h6 : v6.oneCell' = true) (h7 : v7.oneCell' = true) (h8 : v8.oneCell' = true) (h9 : v9.oneCell' = true) (h10 : v10.oneCell' = true) :
  ∀ v ∈ [v0, v1, v2, v3, v4, v5, v6, v7, v8, v9, v10], v.oneCell' = true := fun v hv => by
 simp only [List.mem_cons, List.not_mem_nil, or_false] at hv
 rcases hv with rfl | rfl | rfl | rfl | rfl | rfl | rfl | rfl | rfl | rfl | rfl <;> assumption
set_option maxHeartbeats 4000000 in
set_option maxRecDepth 100000 in
theorem get2_a (l o : Int) (key data : List Int) (hl : 1 ≤ l ∧ l < 1000000) (ho : 1 ≤ o ∧ o < 1000000) (hkl : 1 ≤ key.length ∧ key.length ≤ 32) (hdl : 1 ≤ data.length ∧ data.length ≤ 200) {W : World} {q off : Nat} (h : Bytes W (some ⟨q, off, none⟩) (be 2 1 ++ (be l 8 ++ (be 1 4 ++ (be o 4 ++ (be key.length 1 ++ key ++ (be data.length 1 ++ data ++ []))))))) (hq : q < W.heap.size) (c0 : Nat) :
  Calls Tryz.prog 52 #[.slice (some ⟨q, off, none⟩) (19 + key.length + data.length) c0] W fun e W' => ∃ gk ck gd cd, e = .returned (.tuple #[.agg #[.int .i64 2, .int .u64 l, .int .u32 1, .int .u32 o, .int .i64 0, .bool false, .int .i64 0, .int .i64 0, .int .u64 0, .slice (some ⟨gk, 0, none⟩) key.length ck, .slice (some ⟨gd, 0, none⟩) data.length cd], .int .i64 0]) ∧ W'.ownsRow W.heap.size 5 1 (.slice (some ⟨gk, 0, none⟩) key.length ck) key.length (bv key) ∧ W'.ownsRow W.heap.size 5 1 (.slice (some ⟨gd, 0, none⟩) data.length cd) data.length (bv data) ∧ Below W.heap.size W W' := by
 have hx : (be 2 1 ++ (be l 8 ++ (be 1 4 ++ (be o 4 ++ (be key.length 1 ++ key ++ (be data.length 1 ++ data ++ [])))))).length = (19 + key.length + data.length) := by simp only [List.length_append, List.length_nil, be_len]; omega
 have HN := newr_a (W := W.alloc (.cells zero41 41 (0, 0))) (h.keep (fun q' o' e _ => Below.heap_alloc _ _ _ (by cases e; exact hq)) (by simp)) (by rw [hx]; omega) (by rw [hx]; omega) c0
 rw [hx] at HN
 have HN := As.mk HN
 clear h hx
 go_enter Tryz.func52, Tryz.ntmps52
 go_wp2_with fail
 refine HN.out.mono ?_
 rintro e w1 ⟨p, g, rfl, q1, q2⟩
 obtain ⟨r0, hr0⟩ : ∃ r0, r0 = W.heap.size := ⟨_, rfl⟩
 have HR0 := As.mk hr0
 have R := As.mk q1
 have B1 := As.mk (((Below.refl W.heap.size W).alloc (Nat.le_refl _) (.cells zero41 41 (0, 0))).trans (q2.mono (by simp)))
 have H0 : As (w1.heap[r0]? = some (.cells zero41 41 (0, 0))) := ⟨by rw [hr0]; exact (q2.block W.heap.size (by simp)).trans (heap_alloc_new W _)⟩
 have hl0 := q1.lts
 rw [show (W.alloc (.cells zero41 41 (0, 0))).heap.size = r0 + 1 by rw [hr0]; simp] at hl0
 have hrp : r0 ≠ p := by omega
 have hrle : r0 ≤ p := by omega
 have hs1 := B1.out.size
 rw [← hr0]
 rw [← hr0] at hs1
 have B1' := B1.out
 rw [← hr0] at B1'
 have B := As.mk B1'
 clear q1 q2 HN hr0 B1 B1'
 go_wp2_with fail
 refine (ru8_a 2 (by omega) R.out (by simp only [List.length_append, List.length_nil, be_len]; omega)).mono ?_
 rintro e w2 ⟨rfl, q1, q2⟩
 have R := As.mk q1
 have H0 := As.mk ((q2.block r0 (blk_lt H0.out) hrp).trans H0.out)
 have B := As.mk (B.out.trans (q2.below hs1 (fun k hk => by omega)))
 clear q1 q2
 go_wp2_with fail
 refine (ru64_a l (by omega) R.out (by simp only [List.length_append, List.length_nil, be_len]; omega)).mono ?_
 rintro e w3 ⟨rfl, q1, q2⟩
 have R := As.mk q1
 have H0 := As.mk ((q2.block r0 (blk_lt H0.out) hrp).trans H0.out)
 have B := As.mk (B.out.trans (q2.below (by have := B.out.size; have := HR0.out; omega) (fun k hk => by omega)))
 clear q1 q2
 go_wp2_with fail
 obtain ⟨b5, hb5⟩ : ∃ b5, b5 = w3.heap.size := ⟨_, rfl⟩
 have hl3 := R.out.lts
 have hr3 := blk_lt H0.out
 have hpb : p ≠ b5 := by omega
 have hgb : g ≠ b5 := by omega
 have hrb : r0 ≠ b5 := by omega
 have hb5r : r0 ≤ b5 := by omega
 have H5 : As ((w3.alloc (.cells #[.int .i64 2, .int .u64 l, .int .u32 0, .int .u32 0, .int .i64 0, .bool false, .int .i64 0, .int .i64 0, .int .u64 0, .slice none 0 0, .slice none 0 0] 41 (0, 0))).heap[b5]? = some (.cells #[.int .i64 2, .int .u64 l, .int .u32 0, .int .u32 0, .int .i64 0, .bool false, .int .i64 0, .int .i64 0, .int .u64 0, .slice none 0 0, .slice none 0 0] 41 (0, 0))) := ⟨by rw [hb5]; exact heap_alloc_new w3 _⟩
 have R := As.mk (R.out.alloc (.cells #[.int .i64 2, .int .u64 l, .int .u32 0, .int .u32 0, .int .i64 0, .bool false, .int .i64 0, .int .i64 0, .int .u64 0, .slice none 0 0, .slice none 0 0] 41 (0, 0)))
 have H0 : As ((w3.alloc (.cells #[.int .i64 2, .int .u64 l, .int .u32 0, .int .u32 0, .int .i64 0, .bool false, .int .i64 0, .int .i64 0, .int .u64 0, .slice none 0 0, .slice none 0 0] 41 (0, 0))).heap[r0]? = some (.cells zero41 41 (0, 0))) := ⟨blk_old H0.out _⟩
 have B := As.mk (B.out.alloc (by have := B.out.size; have := HR0.out; omega) (.cells #[.int .i64 2, .int .u64 l, .int .u32 0, .int .u32 0, .int .i64 0, .bool false, .int .i64 0, .int .i64 0, .int .u64 0, .slice none 0 0, .slice none 0 0] 41 (0, 0)))
 generalize w3.alloc (.cells #[.int .i64 2, .int .u64 l, .int .u32 0, .int .u32 0, .int .i64 0, .bool false, .int .i64 0, .int .i64 0, .int .u64 0, .slice none 0 0, .slice none 0 0] 41 (0, 0)) = w4 at *
 rw [← hb5]
 have HB5 := As.mk hb5
 clear hl3 hr3 hl0 hb5
 refine (ru32_a 1 (by omega) R.out (by simp only [List.length_append, List.length_nil, be_len]; omega)).mono ?_
 rintro e w5 ⟨rfl, q1, q2⟩
 have R := As.mk q1
 have H0 := As.mk ((q2.block r0 (blk_lt H0.out) hrp).trans H0.out)
 have H5 := As.mk ((q2.block b5 (blk_lt H5.out) (Ne.symm hpb)).trans H5.out)
 have B := As.mk (B.out.trans (q2.below (by have := B.out.size; have := HR0.out; omega) (fun k hk => by omega)))
 clear q1 q2
 obtain ⟨k0, k1, k2, k3, k4, k5, k6, k7, k8, k9, k10⟩ := cells11 H5.out
 have f0 := blk_frozen H5.out 0
 have f1 := blk_frozen H5.out 2
 go_wp2_with fail
 have H5 : As ((w5.setCell ⟨b5, 2, none⟩ (.int .u32 1)).heap[b5]? = some (.cells #[.int .i64 2, .int .u64 l, .int .u32 1, .int .u32 0, .int .i64 0, .bool false, .int .i64 0, .int .i64 0, .int .u64 0, .slice none 0 0, .slice none 0 0] 41 (0, 0))) := ⟨(blk_put H5.out 2 (.int .u32 1)).trans (by simp)⟩
 have R := As.mk (R.out.set (b := b5) (i := 2) (v := .int .u32 1) hpb hgb)
 have H0 : As ((w5.setCell ⟨b5, 2, none⟩ (.int .u32 1)).heap[r0]? = some (.cells zero41 41 (0, 0))) := ⟨(Below.heap_setCell _ _ _ _ hrb).trans H0.out⟩
 have B := As.mk (B.out.setCell (p := ⟨b5, 2, none⟩) hb5r (.int .u32 1))
 generalize w5.setCell ⟨b5, 2, none⟩ (.int .u32 1) = w6 at *
 clear k0 k1 k2 k3 k4 k5 k6 k7 k8 k9 k10 f0 f1
 refine (ru32_a o (by omega) R.out (by simp only [List.length_append, List.length_nil, be_len]; omega)).mono ?_
 rintro e w7 ⟨rfl, q1, q2⟩
 have R := As.mk q1
 have H0 := As.mk ((q2.block r0 (blk_lt H0.out) hrp).trans H0.out)
 have H5 := As.mk ((q2.block b5 (blk_lt H5.out) (Ne.symm hpb)).trans H5.out)
 have B := As.mk (B.out.trans (q2.below (by have := B.out.size; have := HR0.out; omega) (fun k hk => by omega)))
 clear q1 q2
 obtain ⟨k0, k1, k2, k3, k4, k5, k6, k7, k8, k9, k10⟩ := cells11 H5.out
 have f0 := blk_frozen H5.out 0
 have f1 := blk_frozen H5.out 3
 go_wp2_with fail
 have H5 : As ((w7.setCell ⟨b5, 3, none⟩ (.int .u32 o)).heap[b5]? = some (.cells #[.int .i64 2, .int .u64 l, .int .u32 1, .int .u32 o, .int .i64 0, .bool false, .int .i64 0, .int .i64 0, .int .u64 0, .slice none 0 0, .slice none 0 0] 41 (0, 0))) := ⟨(blk_put H5.out 3 (.int .u32 o)).trans (by simp)⟩
 have R := As.mk (R.out.set (b := b5) (i := 3) (v := .int .u32 o) hpb hgb)
 have H0 : As ((w7.setCell ⟨b5, 3, none⟩ (.int .u32 o)).heap[r0]? = some (.cells zero41 41 (0, 0))) := ⟨(Below.heap_setCell _ _ _ _ hrb).trans H0.out⟩
 have B := As.mk (B.out.setCell (p := ⟨b5, 3, none⟩) hb5r (.int .u32 o))
 generalize w7.setCell ⟨b5, 3, none⟩ (.int .u32 o) = w8 at *
 clear k0 k1 k2 k3 k4 k5 k6 k7 k8 k9 k10 f0 f1
 refine (rtext_a (s := key) (by omega) (by omega) R.out (by simp only [List.length_append, List.length_nil, be_len]; omega)).mono ?_
 rintro e w9 ⟨gk, ck, rfl, q1, q3, q2⟩
 have hs9 : r0 ≤ w8.heap.size := by have := B.out.size; have := HR0.out; omega
 have KK := As.mk (own_high q3 hs9)
 have hneKK : ∀ g', (Value.slice (some ⟨gk, 0, none⟩) key.length ck).ownBlock = some g' → g' ≠ b5 := fun g' hg' e => by
  have h1 := (q3.lt g' hg').1
  have h2 := blk_lt H5.out
  omega
 have hnpKK : ∀ g', (Value.slice (some ⟨gk, 0, none⟩) key.length ck).ownBlock = some g' → g' ≠ p := fun g' hg' e => by
  have h1 := (q3.lt g' hg').1
  have h2 := R.out.lts
  omega
 have hnrKK : ∀ g', (Value.slice (some ⟨gk, 0, none⟩) key.length ck).ownBlock = some g' → g' ≠ r0 := fun g' hg' e => by
  have h1 := (q3.lt g' hg').1
  have h2 := blk_lt H0.out
  omega
 have R := As.mk q1
 have H0 := As.mk ((q2.block r0 (blk_lt H0.out) hrp).trans H0.out)
 have H5 := As.mk ((q2.block b5 (blk_lt H5.out) (Ne.symm hpb)).trans H5.out)
 have B := As.mk (B.out.trans (q2.below (by have := B.out.size; have := HR0.out; omega) (fun k hk => by omega)))
 clear q1 q2 q3
 obtain ⟨k0, k1, k2, k3, k4, k5, k6, k7, k8, k9, k10⟩ := cells11 H5.out
 have f0 := blk_frozen H5.out 0
 have f1 := blk_frozen H5.out 9
 go_wp2_with fail
 have H5 : As ((w9.setCell ⟨b5, 9, none⟩ (.slice (some ⟨gk, 0, none⟩) key.length ck)).heap[b5]? = some (.cells #[.int .i64 2, .int .u64 l, .int .u32 1, .int .u32 o, .int .i64 0, .bool false, .int .i64 0, .int .i64 0, .int .u64 0, .slice (some ⟨gk, 0, none⟩) key.length ck, .slice none 0 0] 41 (0, 0))) := ⟨(blk_put H5.out 9 (.slice (some ⟨gk, 0, none⟩) key.length ck)).trans (by simp)⟩
 have R := As.mk (R.out.set (b := b5) (i := 9) (v := .slice (some ⟨gk, 0, none⟩) key.length ck) hpb hgb)
 have H0 : As ((w9.setCell ⟨b5, 9, none⟩ (.slice (some ⟨gk, 0, none⟩) key.length ck)).heap[r0]? = some (.cells zero41 41 (0, 0))) := ⟨(Below.heap_setCell _ _ _ _ hrb).trans H0.out⟩
 have B := As.mk (B.out.setCell (p := ⟨b5, 9, none⟩) hb5r (.slice (some ⟨gk, 0, none⟩) key.length ck))
 have KK := As.mk (own_keep (W' := w9.setCell ⟨b5, 9, none⟩ (.slice (some ⟨gk, 0, none⟩) key.length ck)) KK.out (fun g' hg' _ => Below.heap_setCell _ _ _ _ (hneKK g' hg')))
 generalize w9.setCell ⟨b5, 9, none⟩ (.slice (some ⟨gk, 0, none⟩) key.length ck) = w10 at *
 clear k0 k1 k2 k3 k4 k5 k6 k7 k8 k9 k10 f0 f1
 refine (rtext_a (s := data) (by omega) (by omega) R.out (by simp only [List.length_append, List.length_nil, be_len]; omega)).mono ?_
 rintro e w11 ⟨gd, cd, rfl, q1, q3, q2⟩
 have hs11 : r0 ≤ w10.heap.size := by have := B.out.size; have := HR0.out; omega
 have KD := As.mk (own_high q3 hs11)
 have hneKD : ∀ g', (Value.slice (some ⟨gd, 0, none⟩) data.length cd).ownBlock = some g' → g' ≠ b5 := fun g' hg' e => by
  have h1 := (q3.lt g' hg').1
  have h2 := blk_lt H5.out
  omega
 have KK := As.mk (own_keep KK.out (fun g' hg' hl' => q2.block g' hl' (fun e => hnpKK g' hg' e)))
 have hnpKD : ∀ g', (Value.slice (some ⟨gd, 0, none⟩) data.length cd).ownBlock = some g' → g' ≠ p := fun g' hg' e => by
  have h1 := (q3.lt g' hg').1
  have h2 := R.out.lts
  omega
 have hnrKD : ∀ g', (Value.slice (some ⟨gd, 0, none⟩) data.length cd).ownBlock = some g' → g' ≠ r0 := fun g' hg' e => by
  have h1 := (q3.lt g' hg').1
  have h2 := blk_lt H0.out
  omega
 have R := As.mk q1
 have H0 := As.mk ((q2.block r0 (blk_lt H0.out) hrp).trans H0.out)
 have H5 := As.mk ((q2.block b5 (blk_lt H5.out) (Ne.symm hpb)).trans H5.out)
 have B := As.mk (B.out.trans (q2.below (by have := B.out.size; have := HR0.out; omega) (fun k hk => by omega)))
 clear q1 q2 q3
 obtain ⟨k0, k1, k2, k3, k4, k5, k6, k7, k8, k9, k10⟩ := cells11 H5.out
 have f0 := blk_frozen H5.out 0
 have f1 := blk_frozen H5.out 10
 go_wp2_with fail
 have H5 : As ((w11.setCell ⟨b5, 10, none⟩ (.slice (some ⟨gd, 0, none⟩) data.length cd)).heap[b5]? = some (.cells #[.int .i64 2, .int .u64 l, .int .u32 1, .int .u32 o, .int .i64 0, .bool false, .int .i64 0, .int .i64 0, .int .u64 0, .slice (some ⟨gk, 0, none⟩) key.length ck, .slice (some ⟨gd, 0, none⟩) data.length cd] 41 (0, 0))) := ⟨(blk_put H5.out 10 (.slice (some ⟨gd, 0, none⟩) data.length cd)).trans (by simp)⟩
 have R := As.mk (R.out.set (b := b5) (i := 10) (v := .slice (some ⟨gd, 0, none⟩) data.length cd) hpb hgb)
 have H0 : As ((w11.setCell ⟨b5, 10, none⟩ (.slice (some ⟨gd, 0, none⟩) data.length cd)).heap[r0]? = some (.cells zero41 41 (0, 0))) := ⟨(Below.heap_setCell _ _ _ _ hrb).trans H0.out⟩
 have B := As.mk (B.out.setCell (p := ⟨b5, 10, none⟩) hb5r (.slice (some ⟨gd, 0, none⟩) data.length cd))
 have KK := As.mk (own_keep (W' := w11.setCell ⟨b5, 10, none⟩ (.slice (some ⟨gd, 0, none⟩) data.length cd)) KK.out (fun g' hg' _ => Below.heap_setCell _ _ _ _ (hneKK g' hg')))
 have KD := As.mk (own_keep (W' := w11.setCell ⟨b5, 10, none⟩ (.slice (some ⟨gd, 0, none⟩) data.length cd)) KD.out (fun g' hg' _ => Below.heap_setCell _ _ _ _ (hneKD g' hg')))
 generalize w11.setCell ⟨b5, 10, none⟩ (.slice (some ⟨gd, 0, none⟩) data.length cd) = w12 at *
 clear k0 k1 k2 k3 k4 k5 k6 k7 k8 k9 k10 f0 f1
 refine (rdone_a R.out).mono ?_
 rintro e wd ⟨rfl, rfl⟩
 obtain ⟨k0, k1, k2, k3, k4, k5, k6, k7, k8, k9, k10⟩ := cells11 H5.out
 go_wp2_with fail
 refine (check2_a _ _ _ _ _ _ _ _ hkl (by omega) hl ho _).mono ?_
 rintro e wy ⟨rfl, q2⟩
 have H5 := As.mk ((q2.block b5 (blk_lt H5.out)).trans H5.out)
 have H0 := As.mk ((q2.block r0 (blk_lt H0.out)).trans H0.out)
 have B := As.mk (B.out.trans (q2.mono (by have := B.out.size; have := HR0.out; omega)))
 have KK := As.mk (own_keep KK.out (fun g' hg' hl' => q2.block g' hl'))
 have KD := As.mk (own_keep KD.out (fun g' hg' hl' => q2.block g' hl'))
 clear q2 k0 k1 k2 k3 k4 k5 k6 k7 k8 k9 k10
 have hone : ∀ v ∈ [(.int .i64 2 : Value), (.int .u64 l : Value), (.int .u32 1 : Value), (.int .u32 o : Value), (.int .i64 0 : Value), (.bool false : Value), (.int .i64 0 : Value), (.int .i64 0 : Value), (.int .u64 0 : Value), (.slice (some ⟨gk, 0, none⟩) key.length ck : Value), (.slice (some ⟨gd, 0, none⟩) data.length cd : Value)], v.oneCell' = true := agg11_one rfl rfl rfl rfl rfl rfl rfl rfl rfl rfl rfl
 go_wp2_with (first | (refine wpList_load_row rfl 41 (.tmp 5) rfl b5 rfl 41 _ _ _ H5.out Tryz.underlying41 rfl size41 ?_) | (refine wpList_store_mid rfl 41 (.tmp 2) (.tmp 90) rfl r0 0 #[.int .i64 2, .int .u64 l, .int .u32 1, .int .u32 o, .int .i64 0, .bool false, .int .i64 0, .int .i64 0, .int .u64 0, .slice (some ⟨gk, 0, none⟩) key.length ck, .slice (some ⟨gd, 0, none⟩) data.length cd] rfl rfl (there_block H0.out 0 11 (by decide)) size41 (all_oneCell_toArray hone) ?_))
 refine bodyPost_ret (results_cell_tmp_row rfl _ _ r0 41 #[.int .i64 2, .int .u64 l, .int .u32 1, .int .u32 o, .int .i64 0, .bool false, .int .i64 0, .int .i64 0, .int .u64 0, .slice (some ⟨gk, 0, none⟩) key.length ck, .slice (some ⟨gd, 0, none⟩) data.length cd] (0, 0) _ rfl (row_over H0.out rfl) Tryz.underlying41 rfl size41) rfl ?_
 rw [← HR0.out]
 have hfin : Below r0 W (World.setCells _ r0 0 #[.int .i64 2, .int .u64 l, .int .u32 1, .int .u32 o, .int .i64 0, .bool false, .int .i64 0, .int .i64 0, .int .u64 0, .slice (some ⟨gk, 0, none⟩) key.length ck, .slice (some ⟨gd, 0, none⟩) data.length cd].toList) := B.out.trans (setCells_below _ (Nat.le_refl _))
 exact ⟨gk, ck, gd, cd, rfl, own_keep KK.out (fun g' hg' _ => setCells_far _ _ _ _ (hnrKK g' hg')), own_keep KD.out (fun g' hg' _ => setCells_far _ _ _ _ (hnrKD g' hg')), hfin⟩
set_option maxHeartbeats 4000000 in
set_option maxRecDepth 100000 in
theorem get3_a (l o s t : Int) (u : Bool) (hl : 1 ≤ l ∧ l < 1000000) (ho : 1 ≤ o ∧ o < 1000000) (hs : 0 ≤ s ∧ s < 16) (ht : 1 ≤ t ∧ t ≤ 255) {W : World} {q off : Nat} (h : Bytes W (some ⟨q, off, none⟩) (be 3 1 ++ (be l 8 ++ (be 1 4 ++ (be o 4 ++ (be s 1 ++ (be (bitF u) 1 ++ (be t 1 ++ [])))))))) (hq : q < W.heap.size) (c0 : Nat) :
  Calls Tryz.prog 52 #[.slice (some ⟨q, off, none⟩) 20 c0] W fun e W' => e = .returned (.tuple #[.agg #[.int .i64 3, .int .u64 l, .int .u32 1, .int .u32 o, .int .i64 s, .bool u, .int .i64 t, .int .i64 0, .int .u64 0, .slice none 0 0, .slice none 0 0], .int .i64 0]) ∧ Below W.heap.size W W' := by
 have hx : (be 3 1 ++ (be l 8 ++ (be 1 4 ++ (be o 4 ++ (be s 1 ++ (be (bitF u) 1 ++ (be t 1 ++ []))))))).length = 20 := by simp only [List.length_append, List.length_nil, be_len]
 have HN := newr_a (W := W.alloc (.cells zero41 41 (0, 0))) (h.keep (fun q' o' e _ => Below.heap_alloc _ _ _ (by cases e; exact hq)) (by simp)) (by rw [hx]; omega) (by rw [hx]; omega) c0
 rw [hx] at HN
 have HN := As.mk HN
 clear h hx
 go_enter Tryz.func52, Tryz.ntmps52
 go_wp2_with fail
 refine HN.out.mono ?_
 rintro e w1 ⟨p, g, rfl, q1, q2⟩
 obtain ⟨r0, hr0⟩ : ∃ r0, r0 = W.heap.size := ⟨_, rfl⟩
 have HR0 := As.mk hr0
 have R := As.mk q1
 have B1 := As.mk (((Below.refl W.heap.size W).alloc (Nat.le_refl _) (.cells zero41 41 (0, 0))).trans (q2.mono (by simp)))
 have H0 : As (w1.heap[r0]? = some (.cells zero41 41 (0, 0))) := ⟨by rw [hr0]; exact (q2.block W.heap.size (by simp)).trans (heap_alloc_new W _)⟩
 have hl0 := q1.lts
 rw [show (W.alloc (.cells zero41 41 (0, 0))).heap.size = r0 + 1 by rw [hr0]; simp] at hl0
 have hrp : r0 ≠ p := by omega
 have hrle : r0 ≤ p := by omega
 have hs1 := B1.out.size
 rw [← hr0]
 rw [← hr0] at hs1
 have B1' := B1.out
 rw [← hr0] at B1'
 have B := As.mk B1'
 clear q1 q2 HN hr0 B1 B1'
 go_wp2_with fail
 refine (ru8_a 3 (by omega) R.out (by simp only [List.length_append, List.length_nil, be_len]; omega)).mono ?_
 rintro e w2 ⟨rfl, q1, q2⟩
 have R := As.mk q1
 have H0 := As.mk ((q2.block r0 (blk_lt H0.out) hrp).trans H0.out)
 have B := As.mk (B.out.trans (q2.below hs1 (fun k hk => by omega)))
 clear q1 q2
 go_wp2_with fail
 refine (ru64_a l (by omega) R.out (by simp only [List.length_append, List.length_nil, be_len]; omega)).mono ?_
 rintro e w3 ⟨rfl, q1, q2⟩
 have R := As.mk q1
 have H0 := As.mk ((q2.block r0 (blk_lt H0.out) hrp).trans H0.out)
 have B := As.mk (B.out.trans (q2.below (by have := B.out.size; have := HR0.out; omega) (fun k hk => by omega)))
 clear q1 q2
 go_wp2_with fail
 obtain ⟨b5, hb5⟩ : ∃ b5, b5 = w3.heap.size := ⟨_, rfl⟩
 have hl3 := R.out.lts
 have hr3 := blk_lt H0.out
 have hpb : p ≠ b5 := by omega
 have hgb : g ≠ b5 := by omega
 have hrb : r0 ≠ b5 := by omega
 have hb5r : r0 ≤ b5 := by omega
 have H5 : As ((w3.alloc (.cells #[.int .i64 3, .int .u64 l, .int .u32 0, .int .u32 0, .int .i64 0, .bool false, .int .i64 0, .int .i64 0, .int .u64 0, .slice none 0 0, .slice none 0 0] 41 (0, 0))).heap[b5]? = some (.cells #[.int .i64 3, .int .u64 l, .int .u32 0, .int .u32 0, .int .i64 0, .bool false, .int .i64 0, .int .i64 0, .int .u64 0, .slice none 0 0, .slice none 0 0] 41 (0, 0))) := ⟨by rw [hb5]; exact heap_alloc_new w3 _⟩
 have R := As.mk (R.out.alloc (.cells #[.int .i64 3, .int .u64 l, .int .u32 0, .int .u32 0, .int .i64 0, .bool false, .int .i64 0, .int .i64 0, .int .u64 0, .slice none 0 0, .slice none 0 0] 41 (0, 0)))
 have H0 : As ((w3.alloc (.cells #[.int .i64 3, .int .u64 l, .int .u32 0, .int .u32 0, .int .i64 0, .bool false, .int .i64 0, .int .i64 0, .int .u64 0, .slice none 0 0, .slice none 0 0] 41 (0, 0))).heap[r0]? = some (.cells zero41 41 (0, 0))) := ⟨blk_old H0.out _⟩
 have B := As.mk (B.out.alloc (by have := B.out.size; have := HR0.out; omega) (.cells #[.int .i64 3, .int .u64 l, .int .u32 0, .int .u32 0, .int .i64 0, .bool false, .int .i64 0, .int .i64 0, .int .u64 0, .slice none 0 0, .slice none 0 0] 41 (0, 0)))
 generalize w3.alloc (.cells #[.int .i64 3, .int .u64 l, .int .u32 0, .int .u32 0, .int .i64 0, .bool false, .int .i64 0, .int .i64 0, .int .u64 0, .slice none 0 0, .slice none 0 0] 41 (0, 0)) = w4 at *
 rw [← hb5]
 have HB5 := As.mk hb5
 clear hl3 hr3 hl0 hb5
 refine (ru32_a 1 (by omega) R.out (by simp only [List.length_append, List.length_nil, be_len]; omega)).mono ?_
 rintro e w5 ⟨rfl, q1, q2⟩
 have R := As.mk q1
 have H0 := As.mk ((q2.block r0 (blk_lt H0.out) hrp).trans H0.out)
 have H5 := As.mk ((q2.block b5 (blk_lt H5.out) (Ne.symm hpb)).trans H5.out)
 have B := As.mk (B.out.trans (q2.below (by have := B.out.size; have := HR0.out; omega) (fun k hk => by omega)))
 clear q1 q2
 obtain ⟨k0, k1, k2, k3, k4, k5, k6, k7, k8, k9, k10⟩ := cells11 H5.out
 have f0 := blk_frozen H5.out 0
 have f1 := blk_frozen H5.out 2
 go_wp2_with fail
 have H5 : As ((w5.setCell ⟨b5, 2, none⟩ (.int .u32 1)).heap[b5]? = some (.cells #[.int .i64 3, .int .u64 l, .int .u32 1, .int .u32 0, .int .i64 0, .bool false, .int .i64 0, .int .i64 0, .int .u64 0, .slice none 0 0, .slice none 0 0] 41 (0, 0))) := ⟨(blk_put H5.out 2 (.int .u32 1)).trans (by simp)⟩
 have R := As.mk (R.out.set (b := b5) (i := 2) (v := .int .u32 1) hpb hgb)
 have H0 : As ((w5.setCell ⟨b5, 2, none⟩ (.int .u32 1)).heap[r0]? = some (.cells zero41 41 (0, 0))) := ⟨(Below.heap_setCell _ _ _ _ hrb).trans H0.out⟩
 have B := As.mk (B.out.setCell (p := ⟨b5, 2, none⟩) hb5r (.int .u32 1))
 generalize w5.setCell ⟨b5, 2, none⟩ (.int .u32 1) = w6 at *
 clear k0 k1 k2 k3 k4 k5 k6 k7 k8 k9 k10 f0 f1
 refine (ru32_a o (by omega) R.out (by simp only [List.length_append, List.length_nil, be_len]; omega)).mono ?_
 rintro e w7 ⟨rfl, q1, q2⟩
 have R := As.mk q1
 have H0 := As.mk ((q2.block r0 (blk_lt H0.out) hrp).trans H0.out)
 have H5 := As.mk ((q2.block b5 (blk_lt H5.out) (Ne.symm hpb)).trans H5.out)
 have B := As.mk (B.out.trans (q2.below (by have := B.out.size; have := HR0.out; omega) (fun k hk => by omega)))
 clear q1 q2
 obtain ⟨k0, k1, k2, k3, k4, k5, k6, k7, k8, k9, k10⟩ := cells11 H5.out
 have f0 := blk_frozen H5.out 0
 have f1 := blk_frozen H5.out 3
 go_wp2_with fail
 have H5 : As ((w7.setCell ⟨b5, 3, none⟩ (.int .u32 o)).heap[b5]? = some (.cells #[.int .i64 3, .int .u64 l, .int .u32 1, .int .u32 o, .int .i64 0, .bool false, .int .i64 0, .int .i64 0, .int .u64 0, .slice none 0 0, .slice none 0 0] 41 (0, 0))) := ⟨(blk_put H5.out 3 (.int .u32 o)).trans (by simp)⟩
 have R := As.mk (R.out.set (b := b5) (i := 3) (v := .int .u32 o) hpb hgb)
 have H0 : As ((w7.setCell ⟨b5, 3, none⟩ (.int .u32 o)).heap[r0]? = some (.cells zero41 41 (0, 0))) := ⟨(Below.heap_setCell _ _ _ _ hrb).trans H0.out⟩
 have B := As.mk (B.out.setCell (p := ⟨b5, 3, none⟩) hb5r (.int .u32 o))
 generalize w7.setCell ⟨b5, 3, none⟩ (.int .u32 o) = w8 at *
 clear k0 k1 k2 k3 k4 k5 k6 k7 k8 k9 k10 f0 f1
 refine (ru8_a s (by omega) R.out (by simp only [List.length_append, List.length_nil, be_len]; omega)).mono ?_
 rintro e w9 ⟨rfl, q1, q2⟩
 have R := As.mk q1
 have H0 := As.mk ((q2.block r0 (blk_lt H0.out) hrp).trans H0.out)
 have H5 := As.mk ((q2.block b5 (blk_lt H5.out) (Ne.symm hpb)).trans H5.out)
 have B := As.mk (B.out.trans (q2.below (by have := B.out.size; have := HR0.out; omega) (fun k hk => by omega)))
 clear q1 q2
 obtain ⟨k0, k1, k2, k3, k4, k5, k6, k7, k8, k9, k10⟩ := cells11 H5.out
 have f0 := blk_frozen H5.out 0
 have f1 := blk_frozen H5.out 4
 go_wp2_with fail
 have H5 : As ((w9.setCell ⟨b5, 4, none⟩ (.int .i64 s)).heap[b5]? = some (.cells #[.int .i64 3, .int .u64 l, .int .u32 1, .int .u32 o, .int .i64 s, .bool false, .int .i64 0, .int .i64 0, .int .u64 0, .slice none 0 0, .slice none 0 0] 41 (0, 0))) := ⟨(blk_put H5.out 4 (.int .i64 s)).trans (by simp)⟩
 have R := As.mk (R.out.set (b := b5) (i := 4) (v := .int .i64 s) hpb hgb)
 have H0 : As ((w9.setCell ⟨b5, 4, none⟩ (.int .i64 s)).heap[r0]? = some (.cells zero41 41 (0, 0))) := ⟨(Below.heap_setCell _ _ _ _ hrb).trans H0.out⟩
 have B := As.mk (B.out.setCell (p := ⟨b5, 4, none⟩) hb5r (.int .i64 s))
 generalize w9.setCell ⟨b5, 4, none⟩ (.int .i64 s) = w10 at *
 clear k0 k1 k2 k3 k4 k5 k6 k7 k8 k9 k10 f0 f1
 refine (ru8_a (bitF u) (bitF_range u) R.out (by simp only [List.length_append, List.length_nil, be_len]; omega)).mono ?_
 rintro e w11 ⟨rfl, q1, q2⟩
 have R := As.mk q1
 have H0 := As.mk ((q2.block r0 (blk_lt H0.out) hrp).trans H0.out)
 have H5 := As.mk ((q2.block b5 (blk_lt H5.out) (Ne.symm hpb)).trans H5.out)
 have B := As.mk (B.out.trans (q2.below (by have := B.out.size; have := HR0.out; omega) (fun k hk => by omega)))
 clear q1 q2
 have hbu : (bitF u == 1) = u := by cases u <;> rfl
 obtain ⟨k0, k1, k2, k3, k4, k5, k6, k7, k8, k9, k10⟩ := cells11 H5.out
 have f0 := blk_frozen H5.out 0
 have f1 := blk_frozen H5.out 5
 go_wp2_with fail
 have H5 : As ((w11.setCell ⟨b5, 5, none⟩ (.bool u)).heap[b5]? = some (.cells #[.int .i64 3, .int .u64 l, .int .u32 1, .int .u32 o, .int .i64 s, .bool u, .int .i64 0, .int .i64 0, .int .u64 0, .slice none 0 0, .slice none 0 0] 41 (0, 0))) := ⟨(blk_put H5.out 5 (.bool u)).trans (by simp)⟩
 have R := As.mk (R.out.set (b := b5) (i := 5) (v := .bool u) hpb hgb)
 have H0 : As ((w11.setCell ⟨b5, 5, none⟩ (.bool u)).heap[r0]? = some (.cells zero41 41 (0, 0))) := ⟨(Below.heap_setCell _ _ _ _ hrb).trans H0.out⟩
 have B := As.mk (B.out.setCell (p := ⟨b5, 5, none⟩) hb5r (.bool u))
 generalize w11.setCell ⟨b5, 5, none⟩ (.bool u) = w12 at *
 clear k0 k1 k2 k3 k4 k5 k6 k7 k8 k9 k10 f0 f1
 refine (ru8_a t (by omega) R.out (by simp only [List.length_append, List.length_nil, be_len]; omega)).mono ?_
 rintro e w13 ⟨rfl, q1, q2⟩
 have R := As.mk q1
 have H0 := As.mk ((q2.block r0 (blk_lt H0.out) hrp).trans H0.out)
 have H5 := As.mk ((q2.block b5 (blk_lt H5.out) (Ne.symm hpb)).trans H5.out)
 have B := As.mk (B.out.trans (q2.below (by have := B.out.size; have := HR0.out; omega) (fun k hk => by omega)))
 clear q1 q2
 obtain ⟨k0, k1, k2, k3, k4, k5, k6, k7, k8, k9, k10⟩ := cells11 H5.out
 have f0 := blk_frozen H5.out 0
 have f1 := blk_frozen H5.out 6
 go_wp2_with fail
 have H5 : As ((w13.setCell ⟨b5, 6, none⟩ (.int .i64 t)).heap[b5]? = some (.cells #[.int .i64 3, .int .u64 l, .int .u32 1, .int .u32 o, .int .i64 s, .bool u, .int .i64 t, .int .i64 0, .int .u64 0, .slice none 0 0, .slice none 0 0] 41 (0, 0))) := ⟨(blk_put H5.out 6 (.int .i64 t)).trans (by simp)⟩
 have R := As.mk (R.out.set (b := b5) (i := 6) (v := .int .i64 t) hpb hgb)
 have H0 : As ((w13.setCell ⟨b5, 6, none⟩ (.int .i64 t)).heap[r0]? = some (.cells zero41 41 (0, 0))) := ⟨(Below.heap_setCell _ _ _ _ hrb).trans H0.out⟩
 have B := As.mk (B.out.setCell (p := ⟨b5, 6, none⟩) hb5r (.int .i64 t))
 generalize w13.setCell ⟨b5, 6, none⟩ (.int .i64 t) = w14 at *
 clear k0 k1 k2 k3 k4 k5 k6 k7 k8 k9 k10 f0 f1
 refine (rdone_a R.out).mono ?_
 rintro e wd ⟨rfl, rfl⟩
 obtain ⟨k0, k1, k2, k3, k4, k5, k6, k7, k8, k9, k10⟩ := cells11 H5.out
 have hb1 : ¬ 1 < bitF u := by cases u <;> simp [bitF]
 go_wp2_with fail
 refine (check3_a _ _ _ _ _ _ _ _ _ hl ho hs ht _).mono ?_
 rintro e wy ⟨rfl, q2⟩
 have H5 := As.mk ((q2.block b5 (blk_lt H5.out)).trans H5.out)
 have H0 := As.mk ((q2.block r0 (blk_lt H0.out)).trans H0.out)
 have B := As.mk (B.out.trans (q2.mono (by have := B.out.size; have := HR0.out; omega)))
 clear q2 k0 k1 k2 k3 k4 k5 k6 k7 k8 k9 k10
 have hone : ∀ v ∈ [(.int .i64 3 : Value), (.int .u64 l : Value), (.int .u32 1 : Value), (.int .u32 o : Value), (.int .i64 s : Value), (.bool u : Value), (.int .i64 t : Value), (.int .i64 0 : Value), (.int .u64 0 : Value), (.slice none 0 0 : Value), (.slice none 0 0 : Value)], v.oneCell' = true := agg11_one rfl rfl rfl rfl rfl rfl rfl rfl rfl rfl rfl
 go_wp2_with (first | (refine wpList_load_row rfl 41 (.tmp 5) rfl b5 rfl 41 _ _ _ H5.out Tryz.underlying41 rfl size41 ?_) | (refine wpList_store_mid rfl 41 (.tmp 2) (.tmp 90) rfl r0 0 #[.int .i64 3, .int .u64 l, .int .u32 1, .int .u32 o, .int .i64 s, .bool u, .int .i64 t, .int .i64 0, .int .u64 0, .slice none 0 0, .slice none 0 0] rfl rfl (there_block H0.out 0 11 (by decide)) size41 (all_oneCell_toArray hone) ?_))
 refine bodyPost_ret (results_cell_tmp_row rfl _ _ r0 41 #[.int .i64 3, .int .u64 l, .int .u32 1, .int .u32 o, .int .i64 s, .bool u, .int .i64 t, .int .i64 0, .int .u64 0, .slice none 0 0, .slice none 0 0] (0, 0) _ rfl (row_over H0.out rfl) Tryz.underlying41 rfl size41) rfl ?_
 rw [← HR0.out]
 have hfin : Below r0 W (World.setCells _ r0 0 #[.int .i64 3, .int .u64 l, .int .u32 1, .int .u32 o, .int .i64 s, .bool u, .int .i64 t, .int .i64 0, .int .u64 0, .slice none 0 0, .slice none 0 0].toList) := B.out.trans (setCells_below _ (Nat.le_refl _))
 exact ⟨rfl, hfin⟩
set_option maxHeartbeats 4000000 in
set_option maxRecDepth 100000 in
theorem get4_a (l o s t c : Int) (u : Bool) (hl : 1 ≤ l ∧ l < 1000000) (ho : 1 ≤ o ∧ o < 1000000) (hs : 0 ≤ s ∧ s < 16) (ht : 1 ≤ t ∧ t ≤ 255) (hc : 1 ≤ c ∧ c ≤ 3) {W : World} {q off : Nat} (h : Bytes W (some ⟨q, off, none⟩) (be 4 1 ++ (be l 8 ++ (be 1 4 ++ (be o 4 ++ (be s 1 ++ (be (bitF u) 1 ++ (be t 1 ++ (be c 1 ++ []))))))))) (hq : q < W.heap.size) (c0 : Nat) :
  Calls Tryz.prog 52 #[.slice (some ⟨q, off, none⟩) 21 c0] W fun e W' => e = .returned (.tuple #[.agg #[.int .i64 4, .int .u64 l, .int .u32 1, .int .u32 o, .int .i64 s, .bool u, .int .i64 t, .int .i64 c, .int .u64 0, .slice none 0 0, .slice none 0 0], .int .i64 0]) ∧ Below W.heap.size W W' := by
 have hx : (be 4 1 ++ (be l 8 ++ (be 1 4 ++ (be o 4 ++ (be s 1 ++ (be (bitF u) 1 ++ (be t 1 ++ (be c 1 ++ [])))))))).length = 21 := by simp only [List.length_append, List.length_nil, be_len]
 have HN := newr_a (W := W.alloc (.cells zero41 41 (0, 0))) (h.keep (fun q' o' e _ => Below.heap_alloc _ _ _ (by cases e; exact hq)) (by simp)) (by rw [hx]; omega) (by rw [hx]; omega) c0
 rw [hx] at HN
 have HN := As.mk HN
 clear h hx
 go_enter Tryz.func52, Tryz.ntmps52
 go_wp2_with fail
 refine HN.out.mono ?_
 rintro e w1 ⟨p, g, rfl, q1, q2⟩
 obtain ⟨r0, hr0⟩ : ∃ r0, r0 = W.heap.size := ⟨_, rfl⟩
 have HR0 := As.mk hr0
 have R := As.mk q1
 have B1 := As.mk (((Below.refl W.heap.size W).alloc (Nat.le_refl _) (.cells zero41 41 (0, 0))).trans (q2.mono (by simp)))
 have H0 : As (w1.heap[r0]? = some (.cells zero41 41 (0, 0))) := ⟨by rw [hr0]; exact (q2.block W.heap.size (by simp)).trans (heap_alloc_new W _)⟩
 have hl0 := q1.lts
 rw [show (W.alloc (.cells zero41 41 (0, 0))).heap.size = r0 + 1 by rw [hr0]; simp] at hl0
 have hrp : r0 ≠ p := by omega
 have hrle : r0 ≤ p := by omega
 have hs1 := B1.out.size
 rw [← hr0]
 rw [← hr0] at hs1
 have B1' := B1.out
 rw [← hr0] at B1'
 have B := As.mk B1'
 clear q1 q2 HN hr0 B1 B1'
 go_wp2_with fail
 refine (ru8_a 4 (by omega) R.out (by simp only [List.length_append, List.length_nil, be_len]; omega)).mono ?_
 rintro e w2 ⟨rfl, q1, q2⟩
 have R := As.mk q1
 have H0 := As.mk ((q2.block r0 (blk_lt H0.out) hrp).trans H0.out)
 have B := As.mk (B.out.trans (q2.below hs1 (fun k hk => by omega)))
 clear q1 q2
 go_wp2_with fail
 refine (ru64_a l (by omega) R.out (by simp only [List.length_append, List.length_nil, be_len]; omega)).mono ?_
 rintro e w3 ⟨rfl, q1, q2⟩
 have R := As.mk q1
 have H0 := As.mk ((q2.block r0 (blk_lt H0.out) hrp).trans H0.out)
 have B := As.mk (B.out.trans (q2.below (by have := B.out.size; have := HR0.out; omega) (fun k hk => by omega)))
 clear q1 q2
 go_wp2_with fail
 obtain ⟨b5, hb5⟩ : ∃ b5, b5 = w3.heap.size := ⟨_, rfl⟩
 have hl3 := R.out.lts
 have hr3 := blk_lt H0.out
 have hpb : p ≠ b5 := by omega
 have hgb : g ≠ b5 := by omega
 have hrb : r0 ≠ b5 := by omega
 have hb5r : r0 ≤ b5 := by omega
 have H5 : As ((w3.alloc (.cells #[.int .i64 4, .int .u64 l, .int .u32 0, .int .u32 0, .int .i64 0, .bool false, .int .i64 0, .int .i64 0, .int .u64 0, .slice none 0 0, .slice none 0 0] 41 (0, 0))).heap[b5]? = some (.cells #[.int .i64 4, .int .u64 l, .int .u32 0, .int .u32 0, .int .i64 0, .bool false, .int .i64 0, .int .i64 0, .int .u64 0, .slice none 0 0, .slice none 0 0] 41 (0, 0))) := ⟨by rw [hb5]; exact heap_alloc_new w3 _⟩
 have R := As.mk (R.out.alloc (.cells #[.int .i64 4, .int .u64 l, .int .u32 0, .int .u32 0, .int .i64 0, .bool false, .int .i64 0, .int .i64 0, .int .u64 0, .slice none 0 0, .slice none 0 0] 41 (0, 0)))
 have H0 : As ((w3.alloc (.cells #[.int .i64 4, .int .u64 l, .int .u32 0, .int .u32 0, .int .i64 0, .bool false, .int .i64 0, .int .i64 0, .int .u64 0, .slice none 0 0, .slice none 0 0] 41 (0, 0))).heap[r0]? = some (.cells zero41 41 (0, 0))) := ⟨blk_old H0.out _⟩
 have B := As.mk (B.out.alloc (by have := B.out.size; have := HR0.out; omega) (.cells #[.int .i64 4, .int .u64 l, .int .u32 0, .int .u32 0, .int .i64 0, .bool false, .int .i64 0, .int .i64 0, .int .u64 0, .slice none 0 0, .slice none 0 0] 41 (0, 0)))
 generalize w3.alloc (.cells #[.int .i64 4, .int .u64 l, .int .u32 0, .int .u32 0, .int .i64 0, .bool false, .int .i64 0, .int .i64 0, .int .u64 0, .slice none 0 0, .slice none 0 0] 41 (0, 0)) = w4 at *
 rw [← hb5]
 have HB5 := As.mk hb5
 clear hl3 hr3 hl0 hb5
 refine (ru32_a 1 (by omega) R.out (by simp only [List.length_append, List.length_nil, be_len]; omega)).mono ?_
 rintro e w5 ⟨rfl, q1, q2⟩
 have R := As.mk q1
 have H0 := As.mk ((q2.block r0 (blk_lt H0.out) hrp).trans H0.out)
 have H5 := As.mk ((q2.block b5 (blk_lt H5.out) (Ne.symm hpb)).trans H5.out)
 have B := As.mk (B.out.trans (q2.below (by have := B.out.size; have := HR0.out; omega) (fun k hk => by omega)))
 clear q1 q2
 obtain ⟨k0, k1, k2, k3, k4, k5, k6, k7, k8, k9, k10⟩ := cells11 H5.out
 have f0 := blk_frozen H5.out 0
 have f1 := blk_frozen H5.out 2
 go_wp2_with fail
 have H5 : As ((w5.setCell ⟨b5, 2, none⟩ (.int .u32 1)).heap[b5]? = some (.cells #[.int .i64 4, .int .u64 l, .int .u32 1, .int .u32 0, .int .i64 0, .bool false, .int .i64 0, .int .i64 0, .int .u64 0, .slice none 0 0, .slice none 0 0] 41 (0, 0))) := ⟨(blk_put H5.out 2 (.int .u32 1)).trans (by simp)⟩
 have R := As.mk (R.out.set (b := b5) (i := 2) (v := .int .u32 1) hpb hgb)
 have H0 : As ((w5.setCell ⟨b5, 2, none⟩ (.int .u32 1)).heap[r0]? = some (.cells zero41 41 (0, 0))) := ⟨(Below.heap_setCell _ _ _ _ hrb).trans H0.out⟩
 have B := As.mk (B.out.setCell (p := ⟨b5, 2, none⟩) hb5r (.int .u32 1))
 generalize w5.setCell ⟨b5, 2, none⟩ (.int .u32 1) = w6 at *
 clear k0 k1 k2 k3 k4 k5 k6 k7 k8 k9 k10 f0 f1
 refine (ru32_a o (by omega) R.out (by simp only [List.length_append, List.length_nil, be_len]; omega)).mono ?_
 rintro e w7 ⟨rfl, q1, q2⟩
 have R := As.mk q1
 have H0 := As.mk ((q2.block r0 (blk_lt H0.out) hrp).trans H0.out)
 have H5 := As.mk ((q2.block b5 (blk_lt H5.out) (Ne.symm hpb)).trans H5.out)
 have B := As.mk (B.out.trans (q2.below (by have := B.out.size; have := HR0.out; omega) (fun k hk => by omega)))
 clear q1 q2
 obtain ⟨k0, k1, k2, k3, k4, k5, k6, k7, k8, k9, k10⟩ := cells11 H5.out
 have f0 := blk_frozen H5.out 0
 have f1 := blk_frozen H5.out 3
 go_wp2_with fail
 have H5 : As ((w7.setCell ⟨b5, 3, none⟩ (.int .u32 o)).heap[b5]? = some (.cells #[.int .i64 4, .int .u64 l, .int .u32 1, .int .u32 o, .int .i64 0, .bool false, .int .i64 0, .int .i64 0, .int .u64 0, .slice none 0 0, .slice none 0 0] 41 (0, 0))) := ⟨(blk_put H5.out 3 (.int .u32 o)).trans (by simp)⟩
 have R := As.mk (R.out.set (b := b5) (i := 3) (v := .int .u32 o) hpb hgb)
 have H0 : As ((w7.setCell ⟨b5, 3, none⟩ (.int .u32 o)).heap[r0]? = some (.cells zero41 41 (0, 0))) := ⟨(Below.heap_setCell _ _ _ _ hrb).trans H0.out⟩
 have B := As.mk (B.out.setCell (p := ⟨b5, 3, none⟩) hb5r (.int .u32 o))
 generalize w7.setCell ⟨b5, 3, none⟩ (.int .u32 o) = w8 at *
 clear k0 k1 k2 k3 k4 k5 k6 k7 k8 k9 k10 f0 f1
 refine (ru8_a s (by omega) R.out (by simp only [List.length_append, List.length_nil, be_len]; omega)).mono ?_
 rintro e w9 ⟨rfl, q1, q2⟩
 have R := As.mk q1
 have H0 := As.mk ((q2.block r0 (blk_lt H0.out) hrp).trans H0.out)
 have H5 := As.mk ((q2.block b5 (blk_lt H5.out) (Ne.symm hpb)).trans H5.out)
 have B := As.mk (B.out.trans (q2.below (by have := B.out.size; have := HR0.out; omega) (fun k hk => by omega)))
 clear q1 q2
 obtain ⟨k0, k1, k2, k3, k4, k5, k6, k7, k8, k9, k10⟩ := cells11 H5.out
 have f0 := blk_frozen H5.out 0
 have f1 := blk_frozen H5.out 4
 go_wp2_with fail
 have H5 : As ((w9.setCell ⟨b5, 4, none⟩ (.int .i64 s)).heap[b5]? = some (.cells #[.int .i64 4, .int .u64 l, .int .u32 1, .int .u32 o, .int .i64 s, .bool false, .int .i64 0, .int .i64 0, .int .u64 0, .slice none 0 0, .slice none 0 0] 41 (0, 0))) := ⟨(blk_put H5.out 4 (.int .i64 s)).trans (by simp)⟩
 have R := As.mk (R.out.set (b := b5) (i := 4) (v := .int .i64 s) hpb hgb)
 have H0 : As ((w9.setCell ⟨b5, 4, none⟩ (.int .i64 s)).heap[r0]? = some (.cells zero41 41 (0, 0))) := ⟨(Below.heap_setCell _ _ _ _ hrb).trans H0.out⟩
 have B := As.mk (B.out.setCell (p := ⟨b5, 4, none⟩) hb5r (.int .i64 s))
 generalize w9.setCell ⟨b5, 4, none⟩ (.int .i64 s) = w10 at *
 clear k0 k1 k2 k3 k4 k5 k6 k7 k8 k9 k10 f0 f1
 refine (ru8_a (bitF u) (bitF_range u) R.out (by simp only [List.length_append, List.length_nil, be_len]; omega)).mono ?_
 rintro e w11 ⟨rfl, q1, q2⟩
 have R := As.mk q1
 have H0 := As.mk ((q2.block r0 (blk_lt H0.out) hrp).trans H0.out)
 have H5 := As.mk ((q2.block b5 (blk_lt H5.out) (Ne.symm hpb)).trans H5.out)
 have B := As.mk (B.out.trans (q2.below (by have := B.out.size; have := HR0.out; omega) (fun k hk => by omega)))
 clear q1 q2
 have hbu : (bitF u == 1) = u := by cases u <;> rfl
 obtain ⟨k0, k1, k2, k3, k4, k5, k6, k7, k8, k9, k10⟩ := cells11 H5.out
 have f0 := blk_frozen H5.out 0
 have f1 := blk_frozen H5.out 5
 go_wp2_with fail
 have H5 : As ((w11.setCell ⟨b5, 5, none⟩ (.bool u)).heap[b5]? = some (.cells #[.int .i64 4, .int .u64 l, .int .u32 1, .int .u32 o, .int .i64 s, .bool u, .int .i64 0, .int .i64 0, .int .u64 0, .slice none 0 0, .slice none 0 0] 41 (0, 0))) := ⟨(blk_put H5.out 5 (.bool u)).trans (by simp)⟩
 have R := As.mk (R.out.set (b := b5) (i := 5) (v := .bool u) hpb hgb)
 have H0 : As ((w11.setCell ⟨b5, 5, none⟩ (.bool u)).heap[r0]? = some (.cells zero41 41 (0, 0))) := ⟨(Below.heap_setCell _ _ _ _ hrb).trans H0.out⟩
 have B := As.mk (B.out.setCell (p := ⟨b5, 5, none⟩) hb5r (.bool u))
 generalize w11.setCell ⟨b5, 5, none⟩ (.bool u) = w12 at *
 clear k0 k1 k2 k3 k4 k5 k6 k7 k8 k9 k10 f0 f1
 refine (ru8_a t (by omega) R.out (by simp only [List.length_append, List.length_nil, be_len]; omega)).mono ?_
 rintro e w13 ⟨rfl, q1, q2⟩
 have R := As.mk q1
 have H0 := As.mk ((q2.block r0 (blk_lt H0.out) hrp).trans H0.out)
 have H5 := As.mk ((q2.block b5 (blk_lt H5.out) (Ne.symm hpb)).trans H5.out)
 have B := As.mk (B.out.trans (q2.below (by have := B.out.size; have := HR0.out; omega) (fun k hk => by omega)))
 clear q1 q2
 obtain ⟨k0, k1, k2, k3, k4, k5, k6, k7, k8, k9, k10⟩ := cells11 H5.out
 have f0 := blk_frozen H5.out 0
 have f1 := blk_frozen H5.out 6
 go_wp2_with fail
 have H5 : As ((w13.setCell ⟨b5, 6, none⟩ (.int .i64 t)).heap[b5]? = some (.cells #[.int .i64 4, .int .u64 l, .int .u32 1, .int .u32 o, .int .i64 s, .bool u, .int .i64 t, .int .i64 0, .int .u64 0, .slice none 0 0, .slice none 0 0] 41 (0, 0))) := ⟨(blk_put H5.out 6 (.int .i64 t)).trans (by simp)⟩
 have R := As.mk (R.out.set (b := b5) (i := 6) (v := .int .i64 t) hpb hgb)
 have H0 : As ((w13.setCell ⟨b5, 6, none⟩ (.int .i64 t)).heap[r0]? = some (.cells zero41 41 (0, 0))) := ⟨(Below.heap_setCell _ _ _ _ hrb).trans H0.out⟩
 have B := As.mk (B.out.setCell (p := ⟨b5, 6, none⟩) hb5r (.int .i64 t))
 generalize w13.setCell ⟨b5, 6, none⟩ (.int .i64 t) = w14 at *
 clear k0 k1 k2 k3 k4 k5 k6 k7 k8 k9 k10 f0 f1
 refine (ru8_a c (by omega) R.out (by simp only [List.length_append, List.length_nil, be_len]; omega)).mono ?_
 rintro e w15 ⟨rfl, q1, q2⟩
 have R := As.mk q1
 have H0 := As.mk ((q2.block r0 (blk_lt H0.out) hrp).trans H0.out)
 have H5 := As.mk ((q2.block b5 (blk_lt H5.out) (Ne.symm hpb)).trans H5.out)
 have B := As.mk (B.out.trans (q2.below (by have := B.out.size; have := HR0.out; omega) (fun k hk => by omega)))
 clear q1 q2
 obtain ⟨k0, k1, k2, k3, k4, k5, k6, k7, k8, k9, k10⟩ := cells11 H5.out
 have f0 := blk_frozen H5.out 0
 have f1 := blk_frozen H5.out 7
 go_wp2_with fail
 have H5 : As ((w15.setCell ⟨b5, 7, none⟩ (.int .i64 c)).heap[b5]? = some (.cells #[.int .i64 4, .int .u64 l, .int .u32 1, .int .u32 o, .int .i64 s, .bool u, .int .i64 t, .int .i64 c, .int .u64 0, .slice none 0 0, .slice none 0 0] 41 (0, 0))) := ⟨(blk_put H5.out 7 (.int .i64 c)).trans (by simp)⟩
 have R := As.mk (R.out.set (b := b5) (i := 7) (v := .int .i64 c) hpb hgb)
 have H0 : As ((w15.setCell ⟨b5, 7, none⟩ (.int .i64 c)).heap[r0]? = some (.cells zero41 41 (0, 0))) := ⟨(Below.heap_setCell _ _ _ _ hrb).trans H0.out⟩
 have B := As.mk (B.out.setCell (p := ⟨b5, 7, none⟩) hb5r (.int .i64 c))
 generalize w15.setCell ⟨b5, 7, none⟩ (.int .i64 c) = w16 at *
 clear k0 k1 k2 k3 k4 k5 k6 k7 k8 k9 k10 f0 f1
 refine (rdone_a R.out).mono ?_
 rintro e wd ⟨rfl, rfl⟩
 obtain ⟨k0, k1, k2, k3, k4, k5, k6, k7, k8, k9, k10⟩ := cells11 H5.out
 have hb1 : ¬ 1 < bitF u := by cases u <;> simp [bitF]
 go_wp2_with fail
 refine (check4_a _ _ _ _ _ _ _ _ _ _ hl ho hs ht hc _).mono ?_
 rintro e wy ⟨rfl, q2⟩
 have H5 := As.mk ((q2.block b5 (blk_lt H5.out)).trans H5.out)
 have H0 := As.mk ((q2.block r0 (blk_lt H0.out)).trans H0.out)
 have B := As.mk (B.out.trans (q2.mono (by have := B.out.size; have := HR0.out; omega)))
 clear q2 k0 k1 k2 k3 k4 k5 k6 k7 k8 k9 k10
 have hone : ∀ v ∈ [(.int .i64 4 : Value), (.int .u64 l : Value), (.int .u32 1 : Value), (.int .u32 o : Value), (.int .i64 s : Value), (.bool u : Value), (.int .i64 t : Value), (.int .i64 c : Value), (.int .u64 0 : Value), (.slice none 0 0 : Value), (.slice none 0 0 : Value)], v.oneCell' = true := agg11_one rfl rfl rfl rfl rfl rfl rfl rfl rfl rfl rfl
 go_wp2_with (first | (refine wpList_load_row rfl 41 (.tmp 5) rfl b5 rfl 41 _ _ _ H5.out Tryz.underlying41 rfl size41 ?_) | (refine wpList_store_mid rfl 41 (.tmp 2) (.tmp 90) rfl r0 0 #[.int .i64 4, .int .u64 l, .int .u32 1, .int .u32 o, .int .i64 s, .bool u, .int .i64 t, .int .i64 c, .int .u64 0, .slice none 0 0, .slice none 0 0] rfl rfl (there_block H0.out 0 11 (by decide)) size41 (all_oneCell_toArray hone) ?_))
 refine bodyPost_ret (results_cell_tmp_row rfl _ _ r0 41 #[.int .i64 4, .int .u64 l, .int .u32 1, .int .u32 o, .int .i64 s, .bool u, .int .i64 t, .int .i64 c, .int .u64 0, .slice none 0 0, .slice none 0 0] (0, 0) _ rfl (row_over H0.out rfl) Tryz.underlying41 rfl size41) rfl ?_
 rw [← HR0.out]
 have hfin : Below r0 W (World.setCells _ r0 0 #[.int .i64 4, .int .u64 l, .int .u32 1, .int .u32 o, .int .i64 s, .bool u, .int .i64 t, .int .i64 c, .int .u64 0, .slice none 0 0, .slice none 0 0].toList) := B.out.trans (setCells_below _ (Nat.le_refl _))
 exact ⟨rfl, hfin⟩
end Go.Proofs.YthfjhgdiakciaaaGreat.Bl
/- Entries in a row (Row), of two; may one stand behind another (follows). Condition: both are entries that the law makes, the one's number is the other's and one more. -/
namespace Go.Proofs.YthfjhgdiakciaaaGreat.Bl
open Go.RowKit
set_option linter.unusedVariables false
set_option linter.unusedSimpArgs false
/-- entry.Check says yes of these cells. -/
def ChkOk (c : Array Value) : Prop := ∀ W : World, Calls Tryz.prog 79 #[.agg c] W fun e W' => e = .returned (.int .i64 0) ∧ Below W.heap.size W W'
theorem chk_ok {e : Ent} (h : EntOk e) (ak ad : Option Addr) (ck cd : Nat) : ChkOk (entC e ak ck ad cd).toArray := fun W => by
 obtain ⟨h1, h2, h3⟩ := h
 rcases h3 with ⟨k, a, b, _, _, c, d, f, g⟩ | ⟨k, a, b, c1, c2, d1, d2, f⟩ | ⟨k, a, b, c1, c2, d1, d2, f1, f2⟩
 ·have := check2_a e.lsn e.order ak ad e.key.length ck e.data.length cd (by omega) (by omega) h1 h2 W
  simp only [entC, k, c, d, f, g]
  exact this
 ·have := check3_a e.lsn e.order e.step e.tr e.undo ak ad ck cd h1 h2 ⟨c1, c2⟩ ⟨d1, d2⟩ W
  simp only [entC, k, a, b, f]
  exact this
 ·have := check4_a e.lsn e.order e.step e.tr e.code e.undo ak ad ck cd h1 h2 ⟨c1, c2⟩ ⟨d1, d2⟩ ⟨f1, f2⟩ W
  simp only [entC, k, a, b]
  exact this
set_option maxHeartbeats 4000000 in
set_option maxRecDepth 100000 in
theorem row2_a (ka la oa sa ta ca kb lb ob sb tb cb : Int) (ua ub : Bool) (pa qa pb qb : Option Addr) (na ma ha da nb mb hb db : Nat) (hla : 1 ≤ la ∧ la < 1000000) (hlb : lb = la + 1) (hkb : 2 ≤ kb) (ha' : ChkOk #[.int .i64 ka, .int .u64 la, .int .u32 1, .int .u32 oa, .int .i64 sa, .bool ua, .int .i64 ta, .int .i64 ca, .int .u64 0, .slice pa na ma, .slice qa ha da]) (hb' : ChkOk #[.int .i64 kb, .int .u64 lb, .int .u32 1, .int .u32 ob, .int .i64 sb, .bool ub, .int .i64 tb, .int .i64 cb, .int .u64 0, .slice pb nb mb, .slice qb hb db]) {W : World} {b2 : Nat} (h : W.heap[b2]? = some (.cells #[.int .i64 ka, .int .u64 la, .int .u32 1, .int .u32 oa, .int .i64 sa, .bool ua, .int .i64 ta, .int .i64 ca, .int .u64 0, .slice pa na ma, .slice qa ha da, .int .i64 kb, .int .u64 lb, .int .u32 1, .int .u32 ob, .int .i64 sb, .bool ub, .int .i64 tb, .int .i64 cb, .int .u64 0, .slice pb nb mb, .slice qb hb db] 41 (0, 0))) :
  Calls Tryz.prog 91 #[.slice (some ⟨b2, 0, none⟩) 2 2] W fun e W' => e = .returned (.tuple #[.int .i64 2, .int .i64 0]) ∧ Below W.heap.size W W' := by
 have HA := As.mk ha'
 have HB' := As.mk hb'
 have H := As.mk h
 have hb2 := blk_lt h
 have HL := As.mk hlb
 have hk1 : (kb == 1) = false := by simpa using (show ¬ kb = 1 by omega)
 clear h ha' hb' hlb
 go_enter Tryz.func91, Tryz.ntmps91
 go_wp2_with fail
 go_loopg [10] 2 (fun gk v10 w' => ∃ i : Nat, v10 = .int .i64 i ∧ As (gk = 2 - i) ∧ As (i ≤ 2) ∧ As (Below W.heap.size W w'))
 case atStart => exact ⟨0, rfl, ⟨rfl⟩, ⟨by omega⟩, ⟨Below.refl _ _⟩⟩
 case round =>
  obtain ⟨i, rfl, HK, HI, HB⟩ := hrel
  have hs := HB.out.size
  have H1 := As.mk ((HB.out.block b2 hb2).trans H.out)
  have hi : i = 0 ∨ i = 1 ∨ i = 2 := by have := HI.out; omega
  have hr0 : wr.rangeAt b2 0 [(.int .i64 ka : Value), .int .u64 la, .int .u32 1, .int .u32 oa, .int .i64 sa, .bool ua, .int .i64 ta, .int .i64 ca, .int .u64 0, .slice pa na ma, .slice qa ha da] := fun j v hv => by
   rw [blk_cell H1.out]
   have hj : j < 11 := (List.getElem?_eq_some_iff.1 hv).1
   rcases (show j = 0 ∨ j = 1 ∨ j = 2 ∨ j = 3 ∨ j = 4 ∨ j = 5 ∨ j = 6 ∨ j = 7 ∨ j = 8 ∨ j = 9 ∨ j = 10 by omega) with rfl | rfl | rfl | rfl | rfl | rfl | rfl | rfl | rfl | rfl | rfl <;> exact hv
  have hr1 : wr.rangeAt b2 11 [(.int .i64 kb : Value), .int .u64 lb, .int .u32 1, .int .u32 ob, .int .i64 sb, .bool ub, .int .i64 tb, .int .i64 cb, .int .u64 0, .slice pb nb mb, .slice qb hb db] := fun j v hv => by
   rw [blk_cell H1.out]
   have hj : j < 11 := (List.getElem?_eq_some_iff.1 hv).1
   rcases (show j = 0 ∨ j = 1 ∨ j = 2 ∨ j = 3 ∨ j = 4 ∨ j = 5 ∨ j = 6 ∨ j = 7 ∨ j = 8 ∨ j = 9 ∨ j = 10 by omega) with rfl | rfl | rfl | rfl | rfl | rfl | rfl | rfl | rfl | rfl | rfl <;> exact hv
  rcases hi with rfl | rfl | rfl
  ·have HR0 := As.mk hr0
   clear hr0 hr1
   go_wp2_with (refine wpList_load_mid rfl 41 (.tmp 13) rfl b2 0 rfl [(.int .i64 ka : Value), .int .u64 la, .int .u32 1, .int .u32 oa, .int .i64 sa, .bool ua, .int .i64 ta, .int .i64 ca, .int .u64 0, .slice pa na ma, .slice qa ha da] _ HR0.out Tryz.underlying41 rfl size41 ?_)
   refine (HA.out _).mono ?_
   rintro e w1 ⟨rfl, q1⟩
   have HB1 : As (Below W.heap.size W w1) := ⟨(HB.out.alloc hs _).trans (q1.mono (by simp; omega))⟩
   clear q1
   go_wp2_with fail
   go_roundg 1
   case measure => have := HK.out; omega
   case rel => exact ⟨1, by go_num, ⟨rfl⟩, ⟨by omega⟩, HB1⟩
  ·have HR1 := As.mk hr1
   clear hr0 hr1
   go_wp2_with (refine wpList_load_mid rfl 41 (.tmp 13) rfl b2 11 rfl [(.int .i64 kb : Value), .int .u64 lb, .int .u32 1, .int .u32 ob, .int .i64 sb, .bool ub, .int .i64 tb, .int .i64 cb, .int .u64 0, .slice pb nb mb, .slice qb hb db] _ HR1.out Tryz.underlying41 rfl size41 ?_)
   refine (HB'.out _).mono ?_
   rintro e w1 ⟨rfl, q1⟩
   have HB1 : As (Below W.heap.size W w1) := ⟨(HB.out.alloc hs _).trans (q1.mono (by simp; omega))⟩
   have HE : As (w1.heap[wr.heap.size]? = some (.cells #[.int .i64 kb, .int .u64 lb, .int .u32 1, .int .u32 ob, .int .i64 sb, .bool ub, .int .i64 tb, .int .i64 cb, .int .u64 0, .slice pb nb mb, .slice qb hb db] 41 (0, 0))) := ⟨(q1.block wr.heap.size (by simp)).trans (heap_alloc_new wr _)⟩
   have H2 := As.mk ((HB1.out.block b2 hb2).trans H.out)
   have hlt1 := blk_lt HE.out
   clear q1
   have hr0 : As (w1.rangeAt b2 0 [(.int .i64 ka : Value), .int .u64 la, .int .u32 1, .int .u32 oa, .int .i64 sa, .bool ua, .int .i64 ta, .int .i64 ca, .int .u64 0, .slice pa na ma, .slice qa ha da]) := ⟨fun j v hv => by
    rw [blk_cell H2.out]
    have hj : j < 11 := (List.getElem?_eq_some_iff.1 hv).1
    rcases (show j = 0 ∨ j = 1 ∨ j = 2 ∨ j = 3 ∨ j = 4 ∨ j = 5 ∨ j = 6 ∨ j = 7 ∨ j = 8 ∨ j = 9 ∨ j = 10 by omega) with rfl | rfl | rfl | rfl | rfl | rfl | rfl | rfl | rfl | rfl | rfl <;> exact hv⟩
   obtain ⟨e0, he0⟩ : ∃ e0, e0 = wr.heap.size := ⟨_, rfl⟩
   rw [← he0] at HE hlt1 ⊢
   obtain ⟨k0, k1, k2, k3, k4, k5, k6, k7, k8, k9, k10⟩ := cells11 HE.out
   have hll := HL.out
   have hsub : IntKind.u64.wrap (lb - 1) = la := by rw [hll]; simp [IntKind.wrap, IntKind.bits, IntKind.signed]; omega
   have hHE0 := As.mk he0
   clear he0 hll
   go_wp2_with (refine wpList_load_mid rfl 41 (.tmp 24) rfl b2 0 rfl [(.int .i64 ka : Value), .int .u64 la, .int .u32 1, .int .u32 oa, .int .i64 sa, .bool ua, .int .i64 ta, .int .i64 ca, .int .u64 0, .slice pa na ma, .slice qa ha da] _ hr0.out Tryz.underlying41 rfl size41 ?_)
   go_roundg 0
   case measure => have := HK.out; omega
   case rel => exact ⟨2, by go_num, ⟨rfl⟩, ⟨by omega⟩, ⟨HB1.out.alloc (by have := HB1.out.size; omega) _⟩⟩
  ·go_wp2_with fail
   go_ret2
   exact ⟨rfl, HB.out⟩
theorem alloc3_new (W : World) (a b c : Obj) : (((W.alloc a).alloc b).alloc c).heap[W.heap.size + 1 + 1]? = some c := by
 have h := blk_new ((W.alloc a).alloc b) c
 have e : ((W.alloc a).alloc b).heap.size = W.heap.size + 1 + 1 := by simp
 rwa [e] at h
theorem follows_a (ka la oa sa ta ca kb lb ob sb tb cb : Int) (ua ub : Bool) (pa qa pb qb : Option Addr) (na ma ha da nb mb hb db : Nat) (hla : 1 ≤ la ∧ la < 1000000) (hlb : lb = la + 1) (hkb : 2 ≤ kb) (ha' : ChkOk #[.int .i64 ka, .int .u64 la, .int .u32 1, .int .u32 oa, .int .i64 sa, .bool ua, .int .i64 ta, .int .i64 ca, .int .u64 0, .slice pa na ma, .slice qa ha da]) (hb' : ChkOk #[.int .i64 kb, .int .u64 lb, .int .u32 1, .int .u32 ob, .int .i64 sb, .bool ub, .int .i64 tb, .int .i64 cb, .int .u64 0, .slice pb nb mb, .slice qb hb db]) (W : World) :
  Calls Tryz.prog 47 #[.agg #[.int .i64 ka, .int .u64 la, .int .u32 1, .int .u32 oa, .int .i64 sa, .bool ua, .int .i64 ta, .int .i64 ca, .int .u64 0, .slice pa na ma, .slice qa ha da], .agg #[.int .i64 kb, .int .u64 lb, .int .u32 1, .int .u32 ob, .int .i64 sb, .bool ub, .int .i64 tb, .int .i64 cb, .int .u64 0, .slice pb nb mb, .slice qb hb db]] W fun e W' => e = .returned (.bool true) ∧ Below W.heap.size W W' := by
 have HR := As.mk (fun W b2 h => row2_a ka la oa sa ta ca kb lb ob sb tb cb ua ub pa qa pb qb na ma ha da nb mb hb db hla hlb hkb ha' hb' (W := W) (b2 := b2) h)
 clear ha' hb' hla hlb hkb
 go_enter Tryz.func47, Tryz.ntmps47
 go_wp2_with fail
 refine (HR.out _ _ (alloc3_new W _ _ _)).mono ?_
 rintro e w1 ⟨rfl, q1⟩
 have HB : As (Below W.heap.size W w1) := ⟨((((Below.refl W.heap.size W).alloc (Nat.le_refl _) _).alloc (by simp) _).alloc (by simp; omega) _).trans (q1.mono (by simp; omega))⟩
 clear q1
 go_wp2_with fail
 go_ret
 exact ⟨rfl, HB.out⟩
end Go.Proofs.YthfjhgdiakciaaaGreat.Bl
