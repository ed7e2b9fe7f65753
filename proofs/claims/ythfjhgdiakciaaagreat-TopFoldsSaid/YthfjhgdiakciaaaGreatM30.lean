/- The document's answer: it goes back (back), what came of a step (Tell). Condition: an answer is waited for, of that very step. -/
import Derived.Test.YthfjhgdiakciaaaGreatM26
namespace Go.Proofs.YthfjhgdiakciaaaGreat.Bl
open Go.RowKit
set_option linter.unusedVariables false
set_option linter.unusedSimpArgs false
def bestS (b : Int) : Sg := if b < 0 then overS 2 else ⟨2, b.toNat, 0, false, 0⟩
theorem backS_succ {p : List Stp} {m : Nat} (hm : m < p.length) : backS p (m + 1) = if p[m].back = true then ⟨2, m, 0, false, 0⟩ else backS p m := by
 show (match p[m]? with | none => _ | some x => _) = _
 rw [List.getElem?_eq_getElem hm]
set_option maxHeartbeats 2000000 in
theorem rback_a {W : World} {own : Nat → Prop} {v : Value} {p : List Stp} (h : PlanAt W own v p) (hp : PlanOk p) (n : Nat) (hn : n ≤ p.length) (k : Int) (hk : k = (n : Int) - 1) :
  Calls Tryz.prog 104 #[v, .int .i64 k] W fun e W' => e = .returned (.agg (sgC (backS p n)).toArray) ∧ Below W.heap.size W W' := by
 obtain ⟨hl1, hl2, _⟩ := hp
 obtain ⟨g, c, _, rfl, hgl, _⟩ := h.at (List.getElem?_eq_getElem (show 0 < p.length by omega))
 have H := As.mk h
 have HK := As.mk hk
 clear h hk
 go_enter Tryz.func104, Tryz.ntmps104
 go_wp2_with fail
 go_loopg [5, 6] p.length (fun gk v5 v6 w' => ∃ (i : Nat) (b : Int), v6 = .int .i64 i ∧ v5 = .int .i64 b ∧ As (gk = p.length - i) ∧ As (i ≤ p.length) ∧ As (backS p (min i n) = bestS b) ∧ As (w' = W.alloc (.cells (sgC ⟨0, 0, 0, false, 0⟩).toArray 116 (0, 0))))
 case atStart => exact ⟨0, -1, rfl, rfl, ⟨rfl⟩, ⟨Nat.zero_le _⟩, ⟨by rw [Nat.zero_min]; rfl⟩, ⟨rfl⟩⟩
 case round =>
  obtain ⟨i, b, rfl, rfl, HG, HI, HB, HW⟩ := hrel
  have hwr := HW.out
  have H0 : As (wr.heap[W.heap.size]? = some (.cells (sgC ⟨0, 0, 0, false, 0⟩).toArray 116 (0, 0))) := ⟨by rw [hwr]; exact blk_new W _⟩
  have HBW : As (Below W.heap.size W wr) := ⟨by rw [hwr]; exact (Below.refl _ W).alloc (Nat.le_refl _) _⟩
  clear hwr
  by_cases hlt : i < p.length
  ·obtain ⟨g', c', x, hv, _, _, hx, hr⟩ := H.out.at (List.getElem?_eq_getElem hlt)
   injection hv with e1 _ e2
   injection e1 with e1
   injection e1 with e1
   subst e1 e2
   obtain ⟨_, _, h5⟩ := (hx.keep (W' := wr) (fun k _ hlk => HBW.out.block k hlk) HBW.out.size).c5 (range_heap hr (HBW.out.block g hgl))
   have HE := As.mk (backS_succ hlt)
   clear hx hr
   by_cases hin : i < n
   ·have hd : decide ((i : Int) ≤ k) = true := by simp; have := HK.out; omega
    cases hb : p[i].back with
    | true =>
     rw [hb] at h5 HE
     rw [if_pos rfl] at HE
     clear hb
     go_wp2_with fail
     go_roundg (p.length - (i + 1))
     case measure => have := HG.out; omega
     case rel => exact ⟨i + 1, i, by go_num, rfl, ⟨rfl⟩, ⟨by omega⟩, ⟨by rw [Nat.min_eq_left (by omega), HE.out]; unfold bestS; rw [if_neg (by omega)]; rfl⟩, HW⟩
    | false =>
     rw [hb] at h5 HE
     rw [if_neg (by decide)] at HE
     clear hb
     go_wp2_with fail
     go_roundg (p.length - (i + 1))
     case measure => have := HG.out; omega
     case rel => exact ⟨i + 1, b, by go_num, rfl, ⟨rfl⟩, ⟨by omega⟩, ⟨by rw [Nat.min_eq_left (by omega), HE.out, ← HB.out, Nat.min_eq_left (by omega)]⟩, HW⟩
   ·have hd : decide ((i : Int) ≤ k) = false := by simp; have := HK.out; omega
    clear h5
    go_wp2_with fail
    go_roundg (p.length - (i + 1))
    case measure => have := HG.out; omega
    case rel => exact ⟨i + 1, b, by go_num, rfl, ⟨rfl⟩, ⟨by omega⟩, ⟨by rw [← HB.out, Nat.min_eq_right (by omega), Nat.min_eq_right (by omega)]⟩, HW⟩
  ·have hi : i = p.length := by have := HI.out; omega
   subst hi
   have HB2 : As (backS p n = bestS b) := ⟨by rw [← HB.out, Nat.min_eq_right hn]⟩
   clear HB
   by_cases hb : b < 0
   ·have HE : As (backS p n = overS 2) := ⟨by rw [HB2.out]; unfold bestS; rw [if_pos hb]⟩
    go_wp2_with (refine wpList_store116 rfl (.tmp 4) (.tmp 26) rfl W.heap.size (overS 2) _ rfl rfl H0.out rfl ?_; intro w1 q1 q2 q3)
    refine bodyPost_ret (results_cell_row rfl _ _ W.heap.size 116 (sgC (overS 2)).toArray (0, 0) _ rfl q1 Tryz.underlying116 rfl size116) rfl ⟨by rw [HE.out], HBW.out.trans (q2 _ (Nat.le_refl _))⟩
   ·obtain ⟨m, rfl⟩ : ∃ m : Nat, b = m := ⟨b.toNat, by omega⟩
    have HE : As (backS p n = ⟨2, m, 0, false, 0⟩) := ⟨by rw [HB2.out]; unfold bestS; rw [if_neg hb]; rfl⟩
    go_wp2_with (refine wpList_store116 rfl (.tmp 4) (.tmp 28) rfl W.heap.size ⟨2, m, 0, false, 0⟩ _ rfl rfl H0.out rfl ?_; intro w1 q1 q2 q3)
    refine bodyPost_ret (results_cell_row rfl _ _ W.heap.size 116 (sgC ⟨2, m, 0, false, 0⟩).toArray (0, 0) _ rfl q1 Tryz.underlying116 rfl size116) rfl ⟨by rw [HE.out], HBW.out.trans (q2 _ (Nat.le_refl _))⟩
set_option maxHeartbeats 2000000 in
set_option maxRecDepth 100000 in
theorem rtell_12 {W : World} {own : Nat → Prop} {v : Value} {p : List Stp} (h : PlanAt W own v p) (hp : PlanOk p) (st tr : Nat) (x : Stp) (hx : p[st]? = some x)  (h1 : 1 ≤ tr) (h2 : tr ≤ 2)  :
  Calls Tryz.prog 61 #[v, .agg #[.int .i64 1, .int .i64 st, .int .i64 tr, .bool true, .int .i64 5, .bool false, .int .i64 0], .int .i64 st, .bool false, .int .i64 2] W fun e W' => e = .returned (.tuple #[.agg (sgC (backS p st)).toArray, .int .i64 0]) ∧ Below W.heap.size W W' := by
 have HP : As (∀ w', Below W.heap.size W w' → Calls Tryz.prog 103 #[v, .agg #[.int .i64 1, .int .i64 st, .int .i64 tr, .bool true, .int .i64 5, .bool false, .int .i64 0]] w' fun e W' => e = .returned (.int .i64 0) ∧ Below w'.heap.size w' W') := ⟨fun w' hw => rscheck_live (h.keep (W' := w') (fun k _ hk => hw.block k hk) hw.size) hp 1 st tr true x hx (.inl rfl) (.inr ⟨rfl, h1, h2⟩)⟩
 have HB : As (∀ w', Below W.heap.size W w' → ∀ n, n ≤ p.length → ∀ k : Int, k = (n : Int) - 1 → Calls Tryz.prog 104 #[v, .int .i64 k] w' fun e W' => e = .returned (.agg (sgC (backS p n)).toArray) ∧ Below w'.heap.size w' W') := ⟨fun w' hw n hn k hk => rback_a (h.keep (W' := w') (fun k _ hk => hw.block k hk) hw.size) hp n hn k hk⟩
 obtain ⟨g, c, y, rfl, hgl, _, hy, hr⟩ := h.at hx
 have hst : st < p.length := (List.getElem?_eq_some_iff.1 hx).1
 have HC := As.mk (hy.c5 hr)
 have hl2 := hp.l2
 obtain ⟨lst, HLS⟩ : ∃ lst, ((tr : Int) == 2) = lst := ⟨_, rfl⟩
 clear h hp hx hr hy
 go_enter Tryz.func61, Tryz.ntmps61
 go_wp2_with fail
 refine (HP.out _ (((Below.refl _ _).alloc (Nat.le_refl _) _).alloc (by simp) _)).mono ?_
 rintro e w1 ⟨rfl, q1⟩
 have hbk := As.mk ((q1.block W.heap.size (by simp; omega)).trans (heap_alloc2_old W _ _))
 have hbk2 := As.mk ((q1.block (W.heap.size + 1) (by simp)).trans (heap_alloc2_new W _ _))
 have B1 : As (Below W.heap.size W w1) := ⟨(((Below.refl _ _).alloc (Nat.le_refl _) _).alloc (by simp) _).trans (q1.mono (by simp; omega))⟩
 have o3 : w1.cell? ⟨g, st * 6 + 3, none⟩ = some (.int .i64 2) := by rw [World.cell?_of_block (w := W) (a := ⟨g, st * 6 + 3, none⟩) (B1.out.block g hgl)]; exact HC.out.1
 obtain ⟨k0, k1, k2, k3, k4, k5, k6⟩ := cells7 hbk.out
 have hs1 := B1.out.size
 have hlt := blk_lt hbk.out
 have hlt2 := blk_lt hbk2.out
 generalize hb' : W.heap.size = b at *
 have HBe := As.mk hb'
 clear q1 hb' HP HC
 go_upto_region 8 with fail
 go_region
 go_upto_region 21 with (refine wpList_load_row rfl 116 (.tmp 6) rfl b rfl 116 _ _ _ (show w1.drew.heap[b]? = _ from hbk.out) Tryz.underlying116 rfl size116 ?_)
 have H6 : As (((w1.alloc (.cells #[.int .i64 1, .int .i64 st, .int .i64 tr, .bool false, .int .i64 0, .bool false, .int .i64 0] 116)).drew).heap[b]? = _) := ⟨blk_old hbk.out _⟩
 have H10 : As (((w1.alloc (.cells #[.int .i64 1, .int .i64 st, .int .i64 tr, .bool false, .int .i64 0, .bool false, .int .i64 0] 116)).drew).heap[b + 1]? = _) := ⟨blk_old hbk2.out _⟩
 have H14 : As (((w1.alloc (.cells #[.int .i64 1, .int .i64 st, .int .i64 tr, .bool false, .int .i64 0, .bool false, .int .i64 0] 116)).drew).heap[w1.heap.size]? = some (.cells #[.int .i64 1, .int .i64 st, .int .i64 tr, .bool false, .int .i64 0, .bool false, .int .i64 0] 116 (0, 0))) := ⟨blk_new w1 _⟩
 have B4 : As (Below b W ((w1.alloc (.cells #[.int .i64 1, .int .i64 st, .int .i64 tr, .bool false, .int .i64 0, .bool false, .int .i64 0] 116)).drew)) := ⟨(B1.out.alloc hs1 _).drew⟩
 clear k0 k1 k2 k3 k4 k5 k6 hbk hbk2 o3 B1
 generalize (w1.alloc (.cells #[.int .i64 1, .int .i64 st, .int .i64 tr, .bool false, .int .i64 0, .bool false, .int .i64 0] 116)).drew = w4 at *
 obtain ⟨k0, k1, k2, k3, k4, k5, k6⟩ := cells7 H6.out
 have hl10 := blk_lt H10.out
 go_wp2_with fail
 refine (HB.out w4 B4.out st (by omega) _ rfl).mono ?_
 rintro e w5 ⟨rfl, q1⟩
 have H11 := As.mk ((q1.block (b + 1) hl10).trans H10.out)
 have B5 : As (Below b W w5) := ⟨B4.out.trans (q1.mono (by have := B4.out.size; have := HBe.out; omega))⟩
 clear q1
 go_wp2_with (refine wpList_storeC rfl 116 (.tmp 10) (.tmp 87) rfl (b + 1) 116 (sgC (backS p st)) _ rfl rfl H11.out rfl size116 (sgC_one _) ?_; intro w6 q1 q2 q3 q4)
 refine bodyPost_ret (results_cell_tmp_row rfl _ _ (b + 1) 116 (sgC (backS p st)).toArray (0, 0) _ rfl q1 Tryz.underlying116 rfl size116) rfl ⟨rfl, ?_⟩
 rw [HBe.out]
 exact B5.out.trans (q2 _ (by omega))
set_option maxHeartbeats 2000000 in
set_option maxRecDepth 100000 in
theorem rtell_11a {W : World} {own : Nat → Prop} {v : Value} {p : List Stp} (h : PlanAt W own v p) (hp : PlanOk p) (st tr : Nat) (x : Stp) (hx : p[st]? = some x)  (h1 : 1 ≤ tr) (h2 : tr ≤ 2) (hl : st + 1 = p.length) :
  Calls Tryz.prog 61 #[v, .agg #[.int .i64 1, .int .i64 st, .int .i64 tr, .bool true, .int .i64 5, .bool false, .int .i64 0], .int .i64 st, .bool false, .int .i64 1] W fun e W' => e = .returned (.tuple #[.agg (sgC (overS 1)).toArray, .int .i64 0]) ∧ Below W.heap.size W W' := by
 have HP : As (∀ w', Below W.heap.size W w' → Calls Tryz.prog 103 #[v, .agg #[.int .i64 1, .int .i64 st, .int .i64 tr, .bool true, .int .i64 5, .bool false, .int .i64 0]] w' fun e W' => e = .returned (.int .i64 0) ∧ Below w'.heap.size w' W') := ⟨fun w' hw => rscheck_live (h.keep (W' := w') (fun k _ hk => hw.block k hk) hw.size) hp 1 st tr true x hx (.inl rfl) (.inr ⟨rfl, h1, h2⟩)⟩
 have HB : As (∀ w', Below W.heap.size W w' → ∀ n, n ≤ p.length → ∀ k : Int, k = (n : Int) - 1 → Calls Tryz.prog 104 #[v, .int .i64 k] w' fun e W' => e = .returned (.agg (sgC (backS p n)).toArray) ∧ Below w'.heap.size w' W') := ⟨fun w' hw n hn k hk => rback_a (h.keep (W' := w') (fun k _ hk => hw.block k hk) hw.size) hp n hn k hk⟩
 obtain ⟨g, c, y, rfl, hgl, _, hy, hr⟩ := h.at hx
 have hst : st < p.length := (List.getElem?_eq_some_iff.1 hx).1
 have HC := As.mk (hy.c5 hr)
 have hl2 := hp.l2
 obtain ⟨lst, HLS⟩ : ∃ lst, ((tr : Int) == 2) = lst := ⟨_, rfl⟩
 have he : ((st : Int) + 1 == (p.length : Int)) = true := by simp; omega
 clear h hp hx hr hy
 go_enter Tryz.func61, Tryz.ntmps61
 go_wp2_with fail
 refine (HP.out _ (((Below.refl _ _).alloc (Nat.le_refl _) _).alloc (by simp) _)).mono ?_
 rintro e w1 ⟨rfl, q1⟩
 have hbk := As.mk ((q1.block W.heap.size (by simp; omega)).trans (heap_alloc2_old W _ _))
 have hbk2 := As.mk ((q1.block (W.heap.size + 1) (by simp)).trans (heap_alloc2_new W _ _))
 have B1 : As (Below W.heap.size W w1) := ⟨(((Below.refl _ _).alloc (Nat.le_refl _) _).alloc (by simp) _).trans (q1.mono (by simp; omega))⟩
 have o3 : w1.cell? ⟨g, st * 6 + 3, none⟩ = some (.int .i64 2) := by rw [World.cell?_of_block (w := W) (a := ⟨g, st * 6 + 3, none⟩) (B1.out.block g hgl)]; exact HC.out.1
 obtain ⟨k0, k1, k2, k3, k4, k5, k6⟩ := cells7 hbk.out
 have hs1 := B1.out.size
 have hlt := blk_lt hbk.out
 have hlt2 := blk_lt hbk2.out
 generalize hb' : W.heap.size = b at *
 have HBe := As.mk hb'
 clear q1 hb' HP HC
 go_upto_region 8 with fail
 go_region
 go_upto_region 18 with (refine wpList_load_row rfl 116 (.tmp 6) rfl b rfl 116 _ _ _ (show w1.drew.heap[b]? = _ from hbk.out) Tryz.underlying116 rfl size116 ?_)
 have H6 : As (((w1.alloc (.cells #[.int .i64 1, .int .i64 st, .int .i64 tr, .bool false, .int .i64 0, .bool false, .int .i64 0] 116)).drew).heap[b]? = _) := ⟨blk_old hbk.out _⟩
 have H10 : As (((w1.alloc (.cells #[.int .i64 1, .int .i64 st, .int .i64 tr, .bool false, .int .i64 0, .bool false, .int .i64 0] 116)).drew).heap[b + 1]? = _) := ⟨blk_old hbk2.out _⟩
 have H14 : As (((w1.alloc (.cells #[.int .i64 1, .int .i64 st, .int .i64 tr, .bool false, .int .i64 0, .bool false, .int .i64 0] 116)).drew).heap[w1.heap.size]? = some (.cells #[.int .i64 1, .int .i64 st, .int .i64 tr, .bool false, .int .i64 0, .bool false, .int .i64 0] 116 (0, 0))) := ⟨blk_new w1 _⟩
 have B4 : As (Below b W ((w1.alloc (.cells #[.int .i64 1, .int .i64 st, .int .i64 tr, .bool false, .int .i64 0, .bool false, .int .i64 0] 116)).drew)) := ⟨(B1.out.alloc hs1 _).drew⟩
 clear k0 k1 k2 k3 k4 k5 k6 hbk hbk2 o3 B1
 generalize (w1.alloc (.cells #[.int .i64 1, .int .i64 st, .int .i64 tr, .bool false, .int .i64 0, .bool false, .int .i64 0] 116)).drew = w4 at *
 obtain ⟨k0, k1, k2, k3, k4, k5, k6⟩ := cells7 H6.out
 have hl10 := blk_lt H10.out
 go_wp2_with (first | (refine wpList_storeC rfl 116 (.tmp 10) (.tmp 76) rfl (b + 1) 116 (sgC (overS 1)) _ rfl rfl H10.out rfl size116 (sgC_one _) ?_; intro w6 q1 q2 q3 q4))
 refine bodyPost_ret (results_cell_tmp_row rfl _ _ (b + 1) 116 (sgC (overS 1)).toArray (0, 0) _ rfl q1 Tryz.underlying116 rfl size116) rfl ⟨rfl, ?_⟩
 rw [HBe.out]
 exact B4.out.trans (q2 _ (by omega))
set_option maxHeartbeats 2000000 in
set_option maxRecDepth 100000 in
theorem rtell_11b {W : World} {own : Nat → Prop} {v : Value} {p : List Stp} (h : PlanAt W own v p) (hp : PlanOk p) (st tr : Nat) (x : Stp) (hx : p[st]? = some x)  (h1 : 1 ≤ tr) (h2 : tr ≤ 2) (hl : ¬ st + 1 = p.length) :
  Calls Tryz.prog 61 #[v, .agg #[.int .i64 1, .int .i64 st, .int .i64 tr, .bool true, .int .i64 5, .bool false, .int .i64 0], .int .i64 st, .bool false, .int .i64 1] W fun e W' => e = .returned (.tuple #[.agg (sgC (⟨1, st + 1, 0, false, 0⟩)).toArray, .int .i64 0]) ∧ Below W.heap.size W W' := by
 have HP : As (∀ w', Below W.heap.size W w' → Calls Tryz.prog 103 #[v, .agg #[.int .i64 1, .int .i64 st, .int .i64 tr, .bool true, .int .i64 5, .bool false, .int .i64 0]] w' fun e W' => e = .returned (.int .i64 0) ∧ Below w'.heap.size w' W') := ⟨fun w' hw => rscheck_live (h.keep (W' := w') (fun k _ hk => hw.block k hk) hw.size) hp 1 st tr true x hx (.inl rfl) (.inr ⟨rfl, h1, h2⟩)⟩
 have HB : As (∀ w', Below W.heap.size W w' → ∀ n, n ≤ p.length → ∀ k : Int, k = (n : Int) - 1 → Calls Tryz.prog 104 #[v, .int .i64 k] w' fun e W' => e = .returned (.agg (sgC (backS p n)).toArray) ∧ Below w'.heap.size w' W') := ⟨fun w' hw n hn k hk => rback_a (h.keep (W' := w') (fun k _ hk => hw.block k hk) hw.size) hp n hn k hk⟩
 obtain ⟨g, c, y, rfl, hgl, _, hy, hr⟩ := h.at hx
 have hst : st < p.length := (List.getElem?_eq_some_iff.1 hx).1
 have HC := As.mk (hy.c5 hr)
 have hl2 := hp.l2
 obtain ⟨lst, HLS⟩ : ∃ lst, ((tr : Int) == 2) = lst := ⟨_, rfl⟩
 have he : ((st : Int) + 1 == (p.length : Int)) = false := beq_eq_false_iff_ne.2 (by omega)
 clear h hp hx hr hy
 go_enter Tryz.func61, Tryz.ntmps61
 go_wp2_with fail
 refine (HP.out _ (((Below.refl _ _).alloc (Nat.le_refl _) _).alloc (by simp) _)).mono ?_
 rintro e w1 ⟨rfl, q1⟩
 have hbk := As.mk ((q1.block W.heap.size (by simp; omega)).trans (heap_alloc2_old W _ _))
 have hbk2 := As.mk ((q1.block (W.heap.size + 1) (by simp)).trans (heap_alloc2_new W _ _))
 have B1 : As (Below W.heap.size W w1) := ⟨(((Below.refl _ _).alloc (Nat.le_refl _) _).alloc (by simp) _).trans (q1.mono (by simp; omega))⟩
 have o3 : w1.cell? ⟨g, st * 6 + 3, none⟩ = some (.int .i64 2) := by rw [World.cell?_of_block (w := W) (a := ⟨g, st * 6 + 3, none⟩) (B1.out.block g hgl)]; exact HC.out.1
 obtain ⟨k0, k1, k2, k3, k4, k5, k6⟩ := cells7 hbk.out
 have hs1 := B1.out.size
 have hlt := blk_lt hbk.out
 have hlt2 := blk_lt hbk2.out
 generalize hb' : W.heap.size = b at *
 have HBe := As.mk hb'
 clear q1 hb' HP HC
 go_upto_region 8 with fail
 go_region
 go_upto_region 19 with (refine wpList_load_row rfl 116 (.tmp 6) rfl b rfl 116 _ _ _ (show w1.drew.heap[b]? = _ from hbk.out) Tryz.underlying116 rfl size116 ?_)
 have H6 : As (((w1.alloc (.cells #[.int .i64 1, .int .i64 st, .int .i64 tr, .bool false, .int .i64 0, .bool false, .int .i64 0] 116)).drew).heap[b]? = _) := ⟨blk_old hbk.out _⟩
 have H10 : As (((w1.alloc (.cells #[.int .i64 1, .int .i64 st, .int .i64 tr, .bool false, .int .i64 0, .bool false, .int .i64 0] 116)).drew).heap[b + 1]? = _) := ⟨blk_old hbk2.out _⟩
 have H14 : As (((w1.alloc (.cells #[.int .i64 1, .int .i64 st, .int .i64 tr, .bool false, .int .i64 0, .bool false, .int .i64 0] 116)).drew).heap[w1.heap.size]? = some (.cells #[.int .i64 1, .int .i64 st, .int .i64 tr, .bool false, .int .i64 0, .bool false, .int .i64 0] 116 (0, 0))) := ⟨blk_new w1 _⟩
 have B4 : As (Below b W ((w1.alloc (.cells #[.int .i64 1, .int .i64 st, .int .i64 tr, .bool false, .int .i64 0, .bool false, .int .i64 0] 116)).drew)) := ⟨(B1.out.alloc hs1 _).drew⟩
 clear k0 k1 k2 k3 k4 k5 k6 hbk hbk2 o3 B1
 generalize (w1.alloc (.cells #[.int .i64 1, .int .i64 st, .int .i64 tr, .bool false, .int .i64 0, .bool false, .int .i64 0] 116)).drew = w4 at *
 obtain ⟨k0, k1, k2, k3, k4, k5, k6⟩ := cells7 H6.out
 have hl10 := blk_lt H10.out
 go_wp2_with (first | (refine wpList_storeC rfl 116 (.tmp 10) (.tmp 80) rfl (b + 1) 116 (sgC (⟨1, st + 1, 0, false, 0⟩)) _ rfl rfl H10.out rfl size116 (sgC_one _) ?_; intro w6 q1 q2 q3 q4))
 refine bodyPost_ret (results_cell_tmp_row rfl _ _ (b + 1) 116 (sgC (⟨1, st + 1, 0, false, 0⟩)).toArray (0, 0) _ rfl q1 Tryz.underlying116 rfl size116) rfl ⟨rfl, ?_⟩
 rw [HBe.out]
 exact B4.out.trans (q2 _ (by omega))
set_option maxHeartbeats 2000000 in
set_option maxRecDepth 100000 in
theorem rtell_13b {W : World} {own : Nat → Prop} {v : Value} {p : List Stp} (h : PlanAt W own v p) (hp : PlanOk p) (st tr : Nat) (x : Stp) (hx : p[st]? = some x)  (h1 : 1 ≤ tr) (h2 : tr ≤ 2) (hl : tr = 2) :
  Calls Tryz.prog 61 #[v, .agg #[.int .i64 1, .int .i64 st, .int .i64 tr, .bool true, .int .i64 5, .bool false, .int .i64 0], .int .i64 st, .bool false, .int .i64 3] W fun e W' => e = .returned (.tuple #[.agg (sgC (backS p (st + 1))).toArray, .int .i64 0]) ∧ Below W.heap.size W W' := by
 have HP : As (∀ w', Below W.heap.size W w' → Calls Tryz.prog 103 #[v, .agg #[.int .i64 1, .int .i64 st, .int .i64 tr, .bool true, .int .i64 5, .bool false, .int .i64 0]] w' fun e W' => e = .returned (.int .i64 0) ∧ Below w'.heap.size w' W') := ⟨fun w' hw => rscheck_live (h.keep (W' := w') (fun k _ hk => hw.block k hk) hw.size) hp 1 st tr true x hx (.inl rfl) (.inr ⟨rfl, h1, h2⟩)⟩
 have HB : As (∀ w', Below W.heap.size W w' → ∀ n, n ≤ p.length → ∀ k : Int, k = (n : Int) - 1 → Calls Tryz.prog 104 #[v, .int .i64 k] w' fun e W' => e = .returned (.agg (sgC (backS p n)).toArray) ∧ Below w'.heap.size w' W') := ⟨fun w' hw n hn k hk => rback_a (h.keep (W' := w') (fun k _ hk => hw.block k hk) hw.size) hp n hn k hk⟩
 obtain ⟨g, c, y, rfl, hgl, _, hy, hr⟩ := h.at hx
 have hst : st < p.length := (List.getElem?_eq_some_iff.1 hx).1
 have HC := As.mk (hy.c5 hr)
 have hl2 := hp.l2
 have hd : ((tr : Int) == 2) = true := by simp; omega
 clear hl
 clear h hp hx hr hy
 go_enter Tryz.func61, Tryz.ntmps61
 go_wp2_with fail
 refine (HP.out _ (((Below.refl _ _).alloc (Nat.le_refl _) _).alloc (by simp) _)).mono ?_
 rintro e w1 ⟨rfl, q1⟩
 have hbk := As.mk ((q1.block W.heap.size (by simp; omega)).trans (heap_alloc2_old W _ _))
 have hbk2 := As.mk ((q1.block (W.heap.size + 1) (by simp)).trans (heap_alloc2_new W _ _))
 have B1 : As (Below W.heap.size W w1) := ⟨(((Below.refl _ _).alloc (Nat.le_refl _) _).alloc (by simp) _).trans (q1.mono (by simp; omega))⟩
 have o3 : w1.cell? ⟨g, st * 6 + 3, none⟩ = some (.int .i64 2) := by rw [World.cell?_of_block (w := W) (a := ⟨g, st * 6 + 3, none⟩) (B1.out.block g hgl)]; exact HC.out.1
 obtain ⟨k0, k1, k2, k3, k4, k5, k6⟩ := cells7 hbk.out
 have hs1 := B1.out.size
 have hlt := blk_lt hbk.out
 have hlt2 := blk_lt hbk2.out
 generalize hb' : W.heap.size = b at *
 have HBe := As.mk hb'
 clear q1 hb' HP HC
 go_upto_region 8 with fail
 go_region
 go_upto_region 23 with (refine wpList_load_row rfl 116 (.tmp 6) rfl b rfl 116 _ _ _ (show w1.drew.heap[b]? = _ from hbk.out) Tryz.underlying116 rfl size116 ?_)
 have H6 : As (((w1.alloc (.cells #[.int .i64 1, .int .i64 st, .int .i64 tr, .bool false, .int .i64 0, .bool false, .int .i64 0] 116)).drew).heap[b]? = _) := ⟨blk_old hbk.out _⟩
 have H10 : As (((w1.alloc (.cells #[.int .i64 1, .int .i64 st, .int .i64 tr, .bool false, .int .i64 0, .bool false, .int .i64 0] 116)).drew).heap[b + 1]? = _) := ⟨blk_old hbk2.out _⟩
 have H14 : As (((w1.alloc (.cells #[.int .i64 1, .int .i64 st, .int .i64 tr, .bool false, .int .i64 0, .bool false, .int .i64 0] 116)).drew).heap[w1.heap.size]? = some (.cells #[.int .i64 1, .int .i64 st, .int .i64 tr, .bool false, .int .i64 0, .bool false, .int .i64 0] 116 (0, 0))) := ⟨blk_new w1 _⟩
 have B4 : As (Below b W ((w1.alloc (.cells #[.int .i64 1, .int .i64 st, .int .i64 tr, .bool false, .int .i64 0, .bool false, .int .i64 0] 116)).drew)) := ⟨(B1.out.alloc hs1 _).drew⟩
 clear k0 k1 k2 k3 k4 k5 k6 hbk hbk2 o3 B1
 generalize (w1.alloc (.cells #[.int .i64 1, .int .i64 st, .int .i64 tr, .bool false, .int .i64 0, .bool false, .int .i64 0] 116)).drew = w4 at *
 obtain ⟨k0, k1, k2, k3, k4, k5, k6⟩ := cells7 H6.out
 have hl10 := blk_lt H10.out
 go_wp2_with fail
 refine (HB.out w4 B4.out (st + 1) (by omega) _ (by omega)).mono ?_
 rintro e w5 ⟨rfl, q1⟩
 have H11 := As.mk ((q1.block (b + 1) hl10).trans H10.out)
 have B5 : As (Below b W w5) := ⟨B4.out.trans (q1.mono (by have := B4.out.size; have := HBe.out; omega))⟩
 clear q1
 go_wp2_with (refine wpList_storeC rfl 116 (.tmp 10) (.tmp 96) rfl (b + 1) 116 (sgC (backS p (st + 1))) _ rfl rfl H11.out rfl size116 (sgC_one _) ?_; intro w6 q1 q2 q3 q4)
 refine bodyPost_ret (results_cell_tmp_row rfl _ _ (b + 1) 116 (sgC (backS p (st + 1))).toArray (0, 0) _ rfl q1 Tryz.underlying116 rfl size116) rfl ⟨rfl, ?_⟩
 rw [HBe.out]
 exact B5.out.trans (q2 _ (by omega))
set_option maxHeartbeats 2000000 in
set_option maxRecDepth 100000 in
theorem rtell_13a {W : World} {own : Nat → Prop} {v : Value} {p : List Stp} (h : PlanAt W own v p) (hp : PlanOk p) (st tr : Nat) (x : Stp) (hx : p[st]? = some x)  (h1 : 1 ≤ tr) (h2 : tr ≤ 2) (hl : tr < 2) :
  Calls Tryz.prog 61 #[v, .agg #[.int .i64 1, .int .i64 st, .int .i64 tr, .bool true, .int .i64 5, .bool false, .int .i64 0], .int .i64 st, .bool false, .int .i64 3] W fun e W' => e = .returned (.tuple #[.agg (sgC (⟨1, st, tr, false, 0⟩)).toArray, .int .i64 0]) ∧ Below W.heap.size W W' := by
 have HP : As (∀ w', Below W.heap.size W w' → Calls Tryz.prog 103 #[v, .agg #[.int .i64 1, .int .i64 st, .int .i64 tr, .bool true, .int .i64 5, .bool false, .int .i64 0]] w' fun e W' => e = .returned (.int .i64 0) ∧ Below w'.heap.size w' W') := ⟨fun w' hw => rscheck_live (h.keep (W' := w') (fun k _ hk => hw.block k hk) hw.size) hp 1 st tr true x hx (.inl rfl) (.inr ⟨rfl, h1, h2⟩)⟩
 have HB : As (∀ w', Below W.heap.size W w' → ∀ n, n ≤ p.length → ∀ k : Int, k = (n : Int) - 1 → Calls Tryz.prog 104 #[v, .int .i64 k] w' fun e W' => e = .returned (.agg (sgC (backS p n)).toArray) ∧ Below w'.heap.size w' W') := ⟨fun w' hw n hn k hk => rback_a (h.keep (W' := w') (fun k _ hk => hw.block k hk) hw.size) hp n hn k hk⟩
 obtain ⟨g, c, y, rfl, hgl, _, hy, hr⟩ := h.at hx
 have hst : st < p.length := (List.getElem?_eq_some_iff.1 hx).1
 have HC := As.mk (hy.c5 hr)
 have hl2 := hp.l2
 have hd : ((tr : Int) == 2) = false := beq_eq_false_iff_ne.2 (by omega)
 clear h hp hx hr hy
 go_enter Tryz.func61, Tryz.ntmps61
 go_wp2_with fail
 refine (HP.out _ (((Below.refl _ _).alloc (Nat.le_refl _) _).alloc (by simp) _)).mono ?_
 rintro e w1 ⟨rfl, q1⟩
 have hbk := As.mk ((q1.block W.heap.size (by simp; omega)).trans (heap_alloc2_old W _ _))
 have hbk2 := As.mk ((q1.block (W.heap.size + 1) (by simp)).trans (heap_alloc2_new W _ _))
 have B1 : As (Below W.heap.size W w1) := ⟨(((Below.refl _ _).alloc (Nat.le_refl _) _).alloc (by simp) _).trans (q1.mono (by simp; omega))⟩
 have o3 : w1.cell? ⟨g, st * 6 + 3, none⟩ = some (.int .i64 2) := by rw [World.cell?_of_block (w := W) (a := ⟨g, st * 6 + 3, none⟩) (B1.out.block g hgl)]; exact HC.out.1
 obtain ⟨k0, k1, k2, k3, k4, k5, k6⟩ := cells7 hbk.out
 have hs1 := B1.out.size
 have hlt := blk_lt hbk.out
 have hlt2 := blk_lt hbk2.out
 generalize hb' : W.heap.size = b at *
 have HBe := As.mk hb'
 clear q1 hb' HP HC
 go_upto_region 8 with fail
 go_region
 go_upto_region 24 with (refine wpList_load_row rfl 116 (.tmp 6) rfl b rfl 116 _ _ _ (show w1.drew.heap[b]? = _ from hbk.out) Tryz.underlying116 rfl size116 ?_)
 have H6 : As (((w1.alloc (.cells #[.int .i64 1, .int .i64 st, .int .i64 tr, .bool false, .int .i64 0, .bool false, .int .i64 0] 116)).drew).heap[b]? = _) := ⟨blk_old hbk.out _⟩
 have H10 : As (((w1.alloc (.cells #[.int .i64 1, .int .i64 st, .int .i64 tr, .bool false, .int .i64 0, .bool false, .int .i64 0] 116)).drew).heap[b + 1]? = _) := ⟨blk_old hbk2.out _⟩
 have H14 : As (((w1.alloc (.cells #[.int .i64 1, .int .i64 st, .int .i64 tr, .bool false, .int .i64 0, .bool false, .int .i64 0] 116)).drew).heap[w1.heap.size]? = some (.cells #[.int .i64 1, .int .i64 st, .int .i64 tr, .bool false, .int .i64 0, .bool false, .int .i64 0] 116 (0, 0))) := ⟨blk_new w1 _⟩
 have B4 : As (Below b W ((w1.alloc (.cells #[.int .i64 1, .int .i64 st, .int .i64 tr, .bool false, .int .i64 0, .bool false, .int .i64 0] 116)).drew)) := ⟨(B1.out.alloc hs1 _).drew⟩
 clear k0 k1 k2 k3 k4 k5 k6 hbk hbk2 o3 B1
 generalize (w1.alloc (.cells #[.int .i64 1, .int .i64 st, .int .i64 tr, .bool false, .int .i64 0, .bool false, .int .i64 0] 116)).drew = w4 at *
 obtain ⟨k0, k1, k2, k3, k4, k5, k6⟩ := cells7 H6.out
 have hl10 := blk_lt H10.out
 go_wp2_with (first | (refine wpList_load_row rfl 116 (.tmp 14) rfl w1.heap.size rfl 116 _ _ _ H14.out Tryz.underlying116 rfl size116 ?_) | (refine wpList_storeC rfl 116 (.tmp 10) (.tmp 97) rfl (b + 1) 116 (sgC (⟨1, st, tr, false, 0⟩)) _ rfl rfl H10.out rfl size116 (sgC_one _) ?_; intro w6 q1 q2 q3 q4))
 refine bodyPost_ret (results_cell_tmp_row rfl _ _ (b + 1) 116 (sgC (⟨1, st, tr, false, 0⟩)).toArray (0, 0) _ rfl q1 Tryz.underlying116 rfl size116) rfl ⟨rfl, ?_⟩
 rw [HBe.out]
 exact B4.out.trans (q2 _ (by omega))
set_option maxHeartbeats 2000000 in
set_option maxRecDepth 100000 in
theorem rtell_21 {W : World} {own : Nat → Prop} {v : Value} {p : List Stp} (h : PlanAt W own v p) (hp : PlanOk p) (st tr : Nat) (x : Stp) (hx : p[st]? = some x) (hb : x.back = true) (h1 : 1 ≤ tr) (h2 : tr ≤ 2)  :
  Calls Tryz.prog 61 #[v, .agg #[.int .i64 2, .int .i64 st, .int .i64 tr, .bool true, .int .i64 5, .bool false, .int .i64 0], .int .i64 st, .bool true, .int .i64 1] W fun e W' => e = .returned (.tuple #[.agg (sgC (backS p st)).toArray, .int .i64 0]) ∧ Below W.heap.size W W' := by
 have HP : As (∀ w', Below W.heap.size W w' → Calls Tryz.prog 103 #[v, .agg #[.int .i64 2, .int .i64 st, .int .i64 tr, .bool true, .int .i64 5, .bool false, .int .i64 0]] w' fun e W' => e = .returned (.int .i64 0) ∧ Below w'.heap.size w' W') := ⟨fun w' hw => rscheck_live (h.keep (W' := w') (fun k _ hk => hw.block k hk) hw.size) hp 2 st tr true x hx (.inr ⟨rfl, hb⟩) (.inr ⟨rfl, h1, h2⟩)⟩
 have HB : As (∀ w', Below W.heap.size W w' → ∀ n, n ≤ p.length → ∀ k : Int, k = (n : Int) - 1 → Calls Tryz.prog 104 #[v, .int .i64 k] w' fun e W' => e = .returned (.agg (sgC (backS p n)).toArray) ∧ Below w'.heap.size w' W') := ⟨fun w' hw n hn k hk => rback_a (h.keep (W' := w') (fun k _ hk => hw.block k hk) hw.size) hp n hn k hk⟩
 obtain ⟨g, c, y, rfl, hgl, _, hy, hr⟩ := h.at hx
 have hst : st < p.length := (List.getElem?_eq_some_iff.1 hx).1
 have HC := As.mk (hy.c5 hr)
 have hl2 := hp.l2
 obtain ⟨lst, HLS⟩ : ∃ lst, ((tr : Int) == 2) = lst := ⟨_, rfl⟩
 clear h hp hx hr hy
 go_enter Tryz.func61, Tryz.ntmps61
 go_wp2_with fail
 refine (HP.out _ (((Below.refl _ _).alloc (Nat.le_refl _) _).alloc (by simp) _)).mono ?_
 rintro e w1 ⟨rfl, q1⟩
 have hbk := As.mk ((q1.block W.heap.size (by simp; omega)).trans (heap_alloc2_old W _ _))
 have hbk2 := As.mk ((q1.block (W.heap.size + 1) (by simp)).trans (heap_alloc2_new W _ _))
 have B1 : As (Below W.heap.size W w1) := ⟨(((Below.refl _ _).alloc (Nat.le_refl _) _).alloc (by simp) _).trans (q1.mono (by simp; omega))⟩
 have o3 : w1.cell? ⟨g, st * 6 + 3, none⟩ = some (.int .i64 2) := by rw [World.cell?_of_block (w := W) (a := ⟨g, st * 6 + 3, none⟩) (B1.out.block g hgl)]; exact HC.out.1
 obtain ⟨k0, k1, k2, k3, k4, k5, k6⟩ := cells7 hbk.out
 have hs1 := B1.out.size
 have hlt := blk_lt hbk.out
 have hlt2 := blk_lt hbk2.out
 generalize hb' : W.heap.size = b at *
 have HBe := As.mk hb'
 clear q1 hb' HP HC
 go_upto_region 8 with fail
 go_region
 go_upto_region 26 with (refine wpList_load_row rfl 116 (.tmp 6) rfl b rfl 116 _ _ _ (show w1.drew.heap[b]? = _ from hbk.out) Tryz.underlying116 rfl size116 ?_)
 have H6 : As (((w1.alloc (.cells #[.int .i64 2, .int .i64 st, .int .i64 tr, .bool false, .int .i64 0, .bool false, .int .i64 0] 116)).drew).heap[b]? = _) := ⟨blk_old hbk.out _⟩
 have H10 : As (((w1.alloc (.cells #[.int .i64 2, .int .i64 st, .int .i64 tr, .bool false, .int .i64 0, .bool false, .int .i64 0] 116)).drew).heap[b + 1]? = _) := ⟨blk_old hbk2.out _⟩
 have H14 : As (((w1.alloc (.cells #[.int .i64 2, .int .i64 st, .int .i64 tr, .bool false, .int .i64 0, .bool false, .int .i64 0] 116)).drew).heap[w1.heap.size]? = some (.cells #[.int .i64 2, .int .i64 st, .int .i64 tr, .bool false, .int .i64 0, .bool false, .int .i64 0] 116 (0, 0))) := ⟨blk_new w1 _⟩
 have B4 : As (Below b W ((w1.alloc (.cells #[.int .i64 2, .int .i64 st, .int .i64 tr, .bool false, .int .i64 0, .bool false, .int .i64 0] 116)).drew)) := ⟨(B1.out.alloc hs1 _).drew⟩
 clear k0 k1 k2 k3 k4 k5 k6 hbk hbk2 o3 B1
 generalize (w1.alloc (.cells #[.int .i64 2, .int .i64 st, .int .i64 tr, .bool false, .int .i64 0, .bool false, .int .i64 0] 116)).drew = w4 at *
 obtain ⟨k0, k1, k2, k3, k4, k5, k6⟩ := cells7 H6.out
 have hl10 := blk_lt H10.out
 go_wp2_with fail
 refine (HB.out w4 B4.out st (by omega) _ rfl).mono ?_
 rintro e w5 ⟨rfl, q1⟩
 have H11 := As.mk ((q1.block (b + 1) hl10).trans H10.out)
 have B5 : As (Below b W w5) := ⟨B4.out.trans (q1.mono (by have := B4.out.size; have := HBe.out; omega))⟩
 clear q1
 go_wp2_with (refine wpList_storeC rfl 116 (.tmp 10) (.tmp 104) rfl (b + 1) 116 (sgC (backS p st)) _ rfl rfl H11.out rfl size116 (sgC_one _) ?_; intro w6 q1 q2 q3 q4)
 refine bodyPost_ret (results_cell_tmp_row rfl _ _ (b + 1) 116 (sgC (backS p st)).toArray (0, 0) _ rfl q1 Tryz.underlying116 rfl size116) rfl ⟨rfl, ?_⟩
 rw [HBe.out]
 exact B5.out.trans (q2 _ (by omega))
set_option maxHeartbeats 2000000 in
set_option maxRecDepth 100000 in
theorem rtell_22b {W : World} {own : Nat → Prop} {v : Value} {p : List Stp} (h : PlanAt W own v p) (hp : PlanOk p) (st tr : Nat) (x : Stp) (hx : p[st]? = some x) (hb : x.back = true) (h1 : 1 ≤ tr) (h2 : tr ≤ 2) (hl : tr = 2) :
  Calls Tryz.prog 61 #[v, .agg #[.int .i64 2, .int .i64 st, .int .i64 tr, .bool true, .int .i64 5, .bool false, .int .i64 0], .int .i64 st, .bool true, .int .i64 2] W fun e W' => e = .returned (.tuple #[.agg (sgC (overS 3)).toArray, .int .i64 0]) ∧ Below W.heap.size W W' := by
 have HP : As (∀ w', Below W.heap.size W w' → Calls Tryz.prog 103 #[v, .agg #[.int .i64 2, .int .i64 st, .int .i64 tr, .bool true, .int .i64 5, .bool false, .int .i64 0]] w' fun e W' => e = .returned (.int .i64 0) ∧ Below w'.heap.size w' W') := ⟨fun w' hw => rscheck_live (h.keep (W' := w') (fun k _ hk => hw.block k hk) hw.size) hp 2 st tr true x hx (.inr ⟨rfl, hb⟩) (.inr ⟨rfl, h1, h2⟩)⟩
 have HB : As (∀ w', Below W.heap.size W w' → ∀ n, n ≤ p.length → ∀ k : Int, k = (n : Int) - 1 → Calls Tryz.prog 104 #[v, .int .i64 k] w' fun e W' => e = .returned (.agg (sgC (backS p n)).toArray) ∧ Below w'.heap.size w' W') := ⟨fun w' hw n hn k hk => rback_a (h.keep (W' := w') (fun k _ hk => hw.block k hk) hw.size) hp n hn k hk⟩
 obtain ⟨g, c, y, rfl, hgl, _, hy, hr⟩ := h.at hx
 have hst : st < p.length := (List.getElem?_eq_some_iff.1 hx).1
 have HC := As.mk (hy.c5 hr)
 have hl2 := hp.l2
 have hd : ((tr : Int) == 2) = true := by simp; omega
 clear hl
 clear h hp hx hr hy
 go_enter Tryz.func61, Tryz.ntmps61
 go_wp2_with fail
 refine (HP.out _ (((Below.refl _ _).alloc (Nat.le_refl _) _).alloc (by simp) _)).mono ?_
 rintro e w1 ⟨rfl, q1⟩
 have hbk := As.mk ((q1.block W.heap.size (by simp; omega)).trans (heap_alloc2_old W _ _))
 have hbk2 := As.mk ((q1.block (W.heap.size + 1) (by simp)).trans (heap_alloc2_new W _ _))
 have B1 : As (Below W.heap.size W w1) := ⟨(((Below.refl _ _).alloc (Nat.le_refl _) _).alloc (by simp) _).trans (q1.mono (by simp; omega))⟩
 have o3 : w1.cell? ⟨g, st * 6 + 3, none⟩ = some (.int .i64 2) := by rw [World.cell?_of_block (w := W) (a := ⟨g, st * 6 + 3, none⟩) (B1.out.block g hgl)]; exact HC.out.1
 obtain ⟨k0, k1, k2, k3, k4, k5, k6⟩ := cells7 hbk.out
 have hs1 := B1.out.size
 have hlt := blk_lt hbk.out
 have hlt2 := blk_lt hbk2.out
 generalize hb' : W.heap.size = b at *
 have HBe := As.mk hb'
 clear q1 hb' HP HC
 go_upto_region 8 with fail
 go_region
 go_upto_region 28 with (refine wpList_load_row rfl 116 (.tmp 6) rfl b rfl 116 _ _ _ (show w1.drew.heap[b]? = _ from hbk.out) Tryz.underlying116 rfl size116 ?_)
 have H6 : As (((w1.alloc (.cells #[.int .i64 2, .int .i64 st, .int .i64 tr, .bool false, .int .i64 0, .bool false, .int .i64 0] 116)).drew).heap[b]? = _) := ⟨blk_old hbk.out _⟩
 have H10 : As (((w1.alloc (.cells #[.int .i64 2, .int .i64 st, .int .i64 tr, .bool false, .int .i64 0, .bool false, .int .i64 0] 116)).drew).heap[b + 1]? = _) := ⟨blk_old hbk2.out _⟩
 have H14 : As (((w1.alloc (.cells #[.int .i64 2, .int .i64 st, .int .i64 tr, .bool false, .int .i64 0, .bool false, .int .i64 0] 116)).drew).heap[w1.heap.size]? = some (.cells #[.int .i64 2, .int .i64 st, .int .i64 tr, .bool false, .int .i64 0, .bool false, .int .i64 0] 116 (0, 0))) := ⟨blk_new w1 _⟩
 have B4 : As (Below b W ((w1.alloc (.cells #[.int .i64 2, .int .i64 st, .int .i64 tr, .bool false, .int .i64 0, .bool false, .int .i64 0] 116)).drew)) := ⟨(B1.out.alloc hs1 _).drew⟩
 clear k0 k1 k2 k3 k4 k5 k6 hbk hbk2 o3 B1
 generalize (w1.alloc (.cells #[.int .i64 2, .int .i64 st, .int .i64 tr, .bool false, .int .i64 0, .bool false, .int .i64 0] 116)).drew = w4 at *
 obtain ⟨k0, k1, k2, k3, k4, k5, k6⟩ := cells7 H6.out
 have hl10 := blk_lt H10.out
 go_wp2_with (first | (refine wpList_storeC rfl 116 (.tmp 10) (.tmp 106) rfl (b + 1) 116 (sgC (overS 3)) _ rfl rfl H10.out rfl size116 (sgC_one _) ?_; intro w6 q1 q2 q3 q4))
 refine bodyPost_ret (results_cell_tmp_row rfl _ _ (b + 1) 116 (sgC (overS 3)).toArray (0, 0) _ rfl q1 Tryz.underlying116 rfl size116) rfl ⟨rfl, ?_⟩
 rw [HBe.out]
 exact B4.out.trans (q2 _ (by omega))
set_option maxHeartbeats 2000000 in
set_option maxRecDepth 100000 in
theorem rtell_22a {W : World} {own : Nat → Prop} {v : Value} {p : List Stp} (h : PlanAt W own v p) (hp : PlanOk p) (st tr : Nat) (x : Stp) (hx : p[st]? = some x) (hb : x.back = true) (h1 : 1 ≤ tr) (h2 : tr ≤ 2) (hl : tr < 2) :
  Calls Tryz.prog 61 #[v, .agg #[.int .i64 2, .int .i64 st, .int .i64 tr, .bool true, .int .i64 5, .bool false, .int .i64 0], .int .i64 st, .bool true, .int .i64 2] W fun e W' => e = .returned (.tuple #[.agg (sgC (⟨2, st, tr, false, 0⟩)).toArray, .int .i64 0]) ∧ Below W.heap.size W W' := by
 have HP : As (∀ w', Below W.heap.size W w' → Calls Tryz.prog 103 #[v, .agg #[.int .i64 2, .int .i64 st, .int .i64 tr, .bool true, .int .i64 5, .bool false, .int .i64 0]] w' fun e W' => e = .returned (.int .i64 0) ∧ Below w'.heap.size w' W') := ⟨fun w' hw => rscheck_live (h.keep (W' := w') (fun k _ hk => hw.block k hk) hw.size) hp 2 st tr true x hx (.inr ⟨rfl, hb⟩) (.inr ⟨rfl, h1, h2⟩)⟩
 have HB : As (∀ w', Below W.heap.size W w' → ∀ n, n ≤ p.length → ∀ k : Int, k = (n : Int) - 1 → Calls Tryz.prog 104 #[v, .int .i64 k] w' fun e W' => e = .returned (.agg (sgC (backS p n)).toArray) ∧ Below w'.heap.size w' W') := ⟨fun w' hw n hn k hk => rback_a (h.keep (W' := w') (fun k _ hk => hw.block k hk) hw.size) hp n hn k hk⟩
 obtain ⟨g, c, y, rfl, hgl, _, hy, hr⟩ := h.at hx
 have hst : st < p.length := (List.getElem?_eq_some_iff.1 hx).1
 have HC := As.mk (hy.c5 hr)
 have hl2 := hp.l2
 have hd : ((tr : Int) == 2) = false := beq_eq_false_iff_ne.2 (by omega)
 clear h hp hx hr hy
 go_enter Tryz.func61, Tryz.ntmps61
 go_wp2_with fail
 refine (HP.out _ (((Below.refl _ _).alloc (Nat.le_refl _) _).alloc (by simp) _)).mono ?_
 rintro e w1 ⟨rfl, q1⟩
 have hbk := As.mk ((q1.block W.heap.size (by simp; omega)).trans (heap_alloc2_old W _ _))
 have hbk2 := As.mk ((q1.block (W.heap.size + 1) (by simp)).trans (heap_alloc2_new W _ _))
 have B1 : As (Below W.heap.size W w1) := ⟨(((Below.refl _ _).alloc (Nat.le_refl _) _).alloc (by simp) _).trans (q1.mono (by simp; omega))⟩
 have o3 : w1.cell? ⟨g, st * 6 + 3, none⟩ = some (.int .i64 2) := by rw [World.cell?_of_block (w := W) (a := ⟨g, st * 6 + 3, none⟩) (B1.out.block g hgl)]; exact HC.out.1
 obtain ⟨k0, k1, k2, k3, k4, k5, k6⟩ := cells7 hbk.out
 have hs1 := B1.out.size
 have hlt := blk_lt hbk.out
 have hlt2 := blk_lt hbk2.out
 generalize hb' : W.heap.size = b at *
 have HBe := As.mk hb'
 clear q1 hb' HP HC
 go_upto_region 8 with fail
 go_region
 go_upto_region 29 with (refine wpList_load_row rfl 116 (.tmp 6) rfl b rfl 116 _ _ _ (show w1.drew.heap[b]? = _ from hbk.out) Tryz.underlying116 rfl size116 ?_)
 have H6 : As (((w1.alloc (.cells #[.int .i64 2, .int .i64 st, .int .i64 tr, .bool false, .int .i64 0, .bool false, .int .i64 0] 116)).drew).heap[b]? = _) := ⟨blk_old hbk.out _⟩
 have H10 : As (((w1.alloc (.cells #[.int .i64 2, .int .i64 st, .int .i64 tr, .bool false, .int .i64 0, .bool false, .int .i64 0] 116)).drew).heap[b + 1]? = _) := ⟨blk_old hbk2.out _⟩
 have H14 : As (((w1.alloc (.cells #[.int .i64 2, .int .i64 st, .int .i64 tr, .bool false, .int .i64 0, .bool false, .int .i64 0] 116)).drew).heap[w1.heap.size]? = some (.cells #[.int .i64 2, .int .i64 st, .int .i64 tr, .bool false, .int .i64 0, .bool false, .int .i64 0] 116 (0, 0))) := ⟨blk_new w1 _⟩
 have B4 : As (Below b W ((w1.alloc (.cells #[.int .i64 2, .int .i64 st, .int .i64 tr, .bool false, .int .i64 0, .bool false, .int .i64 0] 116)).drew)) := ⟨(B1.out.alloc hs1 _).drew⟩
 clear k0 k1 k2 k3 k4 k5 k6 hbk hbk2 o3 B1
 generalize (w1.alloc (.cells #[.int .i64 2, .int .i64 st, .int .i64 tr, .bool false, .int .i64 0, .bool false, .int .i64 0] 116)).drew = w4 at *
 obtain ⟨k0, k1, k2, k3, k4, k5, k6⟩ := cells7 H6.out
 have hl10 := blk_lt H10.out
 go_wp2_with (first | (refine wpList_load_row rfl 116 (.tmp 14) rfl w1.heap.size rfl 116 _ _ _ H14.out Tryz.underlying116 rfl size116 ?_) | (refine wpList_storeC rfl 116 (.tmp 10) (.tmp 107) rfl (b + 1) 116 (sgC (⟨2, st, tr, false, 0⟩)) _ rfl rfl H10.out rfl size116 (sgC_one _) ?_; intro w6 q1 q2 q3 q4))
 refine bodyPost_ret (results_cell_tmp_row rfl _ _ (b + 1) 116 (sgC (⟨2, st, tr, false, 0⟩)).toArray (0, 0) _ rfl q1 Tryz.underlying116 rfl size116) rfl ⟨rfl, ?_⟩
 rw [HBe.out]
 exact B4.out.trans (q2 _ (by omega))
set_option maxHeartbeats 2000000 in
set_option maxRecDepth 100000 in
theorem rtell_23b {W : World} {own : Nat → Prop} {v : Value} {p : List Stp} (h : PlanAt W own v p) (hp : PlanOk p) (st tr : Nat) (x : Stp) (hx : p[st]? = some x) (hb : x.back = true) (h1 : 1 ≤ tr) (h2 : tr ≤ 2) (hl : tr = 2) :
  Calls Tryz.prog 61 #[v, .agg #[.int .i64 2, .int .i64 st, .int .i64 tr, .bool true, .int .i64 5, .bool false, .int .i64 0], .int .i64 st, .bool true, .int .i64 3] W fun e W' => e = .returned (.tuple #[.agg (sgC (overS 3)).toArray, .int .i64 0]) ∧ Below W.heap.size W W' := by
 have HP : As (∀ w', Below W.heap.size W w' → Calls Tryz.prog 103 #[v, .agg #[.int .i64 2, .int .i64 st, .int .i64 tr, .bool true, .int .i64 5, .bool false, .int .i64 0]] w' fun e W' => e = .returned (.int .i64 0) ∧ Below w'.heap.size w' W') := ⟨fun w' hw => rscheck_live (h.keep (W' := w') (fun k _ hk => hw.block k hk) hw.size) hp 2 st tr true x hx (.inr ⟨rfl, hb⟩) (.inr ⟨rfl, h1, h2⟩)⟩
 have HB : As (∀ w', Below W.heap.size W w' → ∀ n, n ≤ p.length → ∀ k : Int, k = (n : Int) - 1 → Calls Tryz.prog 104 #[v, .int .i64 k] w' fun e W' => e = .returned (.agg (sgC (backS p n)).toArray) ∧ Below w'.heap.size w' W') := ⟨fun w' hw n hn k hk => rback_a (h.keep (W' := w') (fun k _ hk => hw.block k hk) hw.size) hp n hn k hk⟩
 obtain ⟨g, c, y, rfl, hgl, _, hy, hr⟩ := h.at hx
 have hst : st < p.length := (List.getElem?_eq_some_iff.1 hx).1
 have HC := As.mk (hy.c5 hr)
 have hl2 := hp.l2
 have hd : ((tr : Int) == 2) = true := by simp; omega
 clear hl
 clear h hp hx hr hy
 go_enter Tryz.func61, Tryz.ntmps61
 go_wp2_with fail
 refine (HP.out _ (((Below.refl _ _).alloc (Nat.le_refl _) _).alloc (by simp) _)).mono ?_
 rintro e w1 ⟨rfl, q1⟩
 have hbk := As.mk ((q1.block W.heap.size (by simp; omega)).trans (heap_alloc2_old W _ _))
 have hbk2 := As.mk ((q1.block (W.heap.size + 1) (by simp)).trans (heap_alloc2_new W _ _))
 have B1 : As (Below W.heap.size W w1) := ⟨(((Below.refl _ _).alloc (Nat.le_refl _) _).alloc (by simp) _).trans (q1.mono (by simp; omega))⟩
 have o3 : w1.cell? ⟨g, st * 6 + 3, none⟩ = some (.int .i64 2) := by rw [World.cell?_of_block (w := W) (a := ⟨g, st * 6 + 3, none⟩) (B1.out.block g hgl)]; exact HC.out.1
 obtain ⟨k0, k1, k2, k3, k4, k5, k6⟩ := cells7 hbk.out
 have hs1 := B1.out.size
 have hlt := blk_lt hbk.out
 have hlt2 := blk_lt hbk2.out
 generalize hb' : W.heap.size = b at *
 have HBe := As.mk hb'
 clear q1 hb' HP HC
 go_upto_region 8 with fail
 go_region
 go_upto_region 28 with (refine wpList_load_row rfl 116 (.tmp 6) rfl b rfl 116 _ _ _ (show w1.drew.heap[b]? = _ from hbk.out) Tryz.underlying116 rfl size116 ?_)
 have H6 : As (((w1.alloc (.cells #[.int .i64 2, .int .i64 st, .int .i64 tr, .bool false, .int .i64 0, .bool false, .int .i64 0] 116)).drew).heap[b]? = _) := ⟨blk_old hbk.out _⟩
 have H10 : As (((w1.alloc (.cells #[.int .i64 2, .int .i64 st, .int .i64 tr, .bool false, .int .i64 0, .bool false, .int .i64 0] 116)).drew).heap[b + 1]? = _) := ⟨blk_old hbk2.out _⟩
 have H14 : As (((w1.alloc (.cells #[.int .i64 2, .int .i64 st, .int .i64 tr, .bool false, .int .i64 0, .bool false, .int .i64 0] 116)).drew).heap[w1.heap.size]? = some (.cells #[.int .i64 2, .int .i64 st, .int .i64 tr, .bool false, .int .i64 0, .bool false, .int .i64 0] 116 (0, 0))) := ⟨blk_new w1 _⟩
 have B4 : As (Below b W ((w1.alloc (.cells #[.int .i64 2, .int .i64 st, .int .i64 tr, .bool false, .int .i64 0, .bool false, .int .i64 0] 116)).drew)) := ⟨(B1.out.alloc hs1 _).drew⟩
 clear k0 k1 k2 k3 k4 k5 k6 hbk hbk2 o3 B1
 generalize (w1.alloc (.cells #[.int .i64 2, .int .i64 st, .int .i64 tr, .bool false, .int .i64 0, .bool false, .int .i64 0] 116)).drew = w4 at *
 obtain ⟨k0, k1, k2, k3, k4, k5, k6⟩ := cells7 H6.out
 have hl10 := blk_lt H10.out
 go_wp2_with (first | (refine wpList_storeC rfl 116 (.tmp 10) (.tmp 106) rfl (b + 1) 116 (sgC (overS 3)) _ rfl rfl H10.out rfl size116 (sgC_one _) ?_; intro w6 q1 q2 q3 q4))
 refine bodyPost_ret (results_cell_tmp_row rfl _ _ (b + 1) 116 (sgC (overS 3)).toArray (0, 0) _ rfl q1 Tryz.underlying116 rfl size116) rfl ⟨rfl, ?_⟩
 rw [HBe.out]
 exact B4.out.trans (q2 _ (by omega))
set_option maxHeartbeats 2000000 in
set_option maxRecDepth 100000 in
theorem rtell_23a {W : World} {own : Nat → Prop} {v : Value} {p : List Stp} (h : PlanAt W own v p) (hp : PlanOk p) (st tr : Nat) (x : Stp) (hx : p[st]? = some x) (hb : x.back = true) (h1 : 1 ≤ tr) (h2 : tr ≤ 2) (hl : tr < 2) :
  Calls Tryz.prog 61 #[v, .agg #[.int .i64 2, .int .i64 st, .int .i64 tr, .bool true, .int .i64 5, .bool false, .int .i64 0], .int .i64 st, .bool true, .int .i64 3] W fun e W' => e = .returned (.tuple #[.agg (sgC (⟨2, st, tr, false, 0⟩)).toArray, .int .i64 0]) ∧ Below W.heap.size W W' := by
 have HP : As (∀ w', Below W.heap.size W w' → Calls Tryz.prog 103 #[v, .agg #[.int .i64 2, .int .i64 st, .int .i64 tr, .bool true, .int .i64 5, .bool false, .int .i64 0]] w' fun e W' => e = .returned (.int .i64 0) ∧ Below w'.heap.size w' W') := ⟨fun w' hw => rscheck_live (h.keep (W' := w') (fun k _ hk => hw.block k hk) hw.size) hp 2 st tr true x hx (.inr ⟨rfl, hb⟩) (.inr ⟨rfl, h1, h2⟩)⟩
 have HB : As (∀ w', Below W.heap.size W w' → ∀ n, n ≤ p.length → ∀ k : Int, k = (n : Int) - 1 → Calls Tryz.prog 104 #[v, .int .i64 k] w' fun e W' => e = .returned (.agg (sgC (backS p n)).toArray) ∧ Below w'.heap.size w' W') := ⟨fun w' hw n hn k hk => rback_a (h.keep (W' := w') (fun k _ hk => hw.block k hk) hw.size) hp n hn k hk⟩
 obtain ⟨g, c, y, rfl, hgl, _, hy, hr⟩ := h.at hx
 have hst : st < p.length := (List.getElem?_eq_some_iff.1 hx).1
 have HC := As.mk (hy.c5 hr)
 have hl2 := hp.l2
 have hd : ((tr : Int) == 2) = false := beq_eq_false_iff_ne.2 (by omega)
 clear h hp hx hr hy
 go_enter Tryz.func61, Tryz.ntmps61
 go_wp2_with fail
 refine (HP.out _ (((Below.refl _ _).alloc (Nat.le_refl _) _).alloc (by simp) _)).mono ?_
 rintro e w1 ⟨rfl, q1⟩
 have hbk := As.mk ((q1.block W.heap.size (by simp; omega)).trans (heap_alloc2_old W _ _))
 have hbk2 := As.mk ((q1.block (W.heap.size + 1) (by simp)).trans (heap_alloc2_new W _ _))
 have B1 : As (Below W.heap.size W w1) := ⟨(((Below.refl _ _).alloc (Nat.le_refl _) _).alloc (by simp) _).trans (q1.mono (by simp; omega))⟩
 have o3 : w1.cell? ⟨g, st * 6 + 3, none⟩ = some (.int .i64 2) := by rw [World.cell?_of_block (w := W) (a := ⟨g, st * 6 + 3, none⟩) (B1.out.block g hgl)]; exact HC.out.1
 obtain ⟨k0, k1, k2, k3, k4, k5, k6⟩ := cells7 hbk.out
 have hs1 := B1.out.size
 have hlt := blk_lt hbk.out
 have hlt2 := blk_lt hbk2.out
 generalize hb' : W.heap.size = b at *
 have HBe := As.mk hb'
 clear q1 hb' HP HC
 go_upto_region 8 with fail
 go_region
 go_upto_region 29 with (refine wpList_load_row rfl 116 (.tmp 6) rfl b rfl 116 _ _ _ (show w1.drew.heap[b]? = _ from hbk.out) Tryz.underlying116 rfl size116 ?_)
 have H6 : As (((w1.alloc (.cells #[.int .i64 2, .int .i64 st, .int .i64 tr, .bool false, .int .i64 0, .bool false, .int .i64 0] 116)).drew).heap[b]? = _) := ⟨blk_old hbk.out _⟩
 have H10 : As (((w1.alloc (.cells #[.int .i64 2, .int .i64 st, .int .i64 tr, .bool false, .int .i64 0, .bool false, .int .i64 0] 116)).drew).heap[b + 1]? = _) := ⟨blk_old hbk2.out _⟩
 have H14 : As (((w1.alloc (.cells #[.int .i64 2, .int .i64 st, .int .i64 tr, .bool false, .int .i64 0, .bool false, .int .i64 0] 116)).drew).heap[w1.heap.size]? = some (.cells #[.int .i64 2, .int .i64 st, .int .i64 tr, .bool false, .int .i64 0, .bool false, .int .i64 0] 116 (0, 0))) := ⟨blk_new w1 _⟩
 have B4 : As (Below b W ((w1.alloc (.cells #[.int .i64 2, .int .i64 st, .int .i64 tr, .bool false, .int .i64 0, .bool false, .int .i64 0] 116)).drew)) := ⟨(B1.out.alloc hs1 _).drew⟩
 clear k0 k1 k2 k3 k4 k5 k6 hbk hbk2 o3 B1
 generalize (w1.alloc (.cells #[.int .i64 2, .int .i64 st, .int .i64 tr, .bool false, .int .i64 0, .bool false, .int .i64 0] 116)).drew = w4 at *
 obtain ⟨k0, k1, k2, k3, k4, k5, k6⟩ := cells7 H6.out
 have hl10 := blk_lt H10.out
 go_wp2_with (first | (refine wpList_load_row rfl 116 (.tmp 14) rfl w1.heap.size rfl 116 _ _ _ H14.out Tryz.underlying116 rfl size116 ?_) | (refine wpList_storeC rfl 116 (.tmp 10) (.tmp 107) rfl (b + 1) 116 (sgC (⟨2, st, tr, false, 0⟩)) _ rfl rfl H10.out rfl size116 (sgC_one _) ?_; intro w6 q1 q2 q3 q4))
 refine bodyPost_ret (results_cell_tmp_row rfl _ _ (b + 1) 116 (sgC (⟨2, st, tr, false, 0⟩)).toArray (0, 0) _ rfl q1 Tryz.underlying116 rfl size116) rfl ⟨rfl, ?_⟩
 rw [HBe.out]
 exact B4.out.trans (q2 _ (by omega))
theorem rtell_a {W : World} {own : Nat → Prop} {v : Value} {p : List Stp} (h : PlanAt W own v p) (hp : PlanOk p) {s : Sg} (hs : SgOk p s) (ha : s.asked = true) (code : Nat) (hc : code = 1 ∨ code = 2 ∨ code = 3) (undo : Bool) (hu : undo = (s.ph == 2)) :
  Calls Tryz.prog 61 #[v, .agg (sgC s).toArray, .int .i64 s.st, .bool undo, .int .i64 code] W fun e W' => e = .returned (.tuple #[.agg (sgC (tellS p s code)).toArray, .int .i64 0]) ∧ Below W.heap.size W W' := by
 subst hu
 cases hs with
 | over c h1 h2 => cases ha
 | idle ph st tr x hx hph ht => cases ha
 | wait ph st tr x hx hph h1 h2 =>
  rcases hph with rfl | ⟨rfl, hb⟩
  ·rcases hc with rfl | rfl | rfl
   ·by_cases hl : st + 1 = p.length
    ·have e : tellS p ⟨1, st, tr, true, 0⟩ 1 = overS 1 := by simp [tellS, hl]
     rw [e]; exact rtell_11a h hp st tr x hx h1 h2 hl
    ·have e : tellS p ⟨1, st, tr, true, 0⟩ 1 = ⟨1, st + 1, 0, false, 0⟩ := by simp [tellS, hl]
     rw [e]; exact rtell_11b h hp st tr x hx h1 h2 hl
   ·have e : tellS p ⟨1, st, tr, true, 0⟩ 2 = backS p st := by simp [tellS]
    rw [e]; exact rtell_12 h hp st tr x hx h1 h2
   ·by_cases hl : tr < 2
    ·have e : tellS p ⟨1, st, tr, true, 0⟩ 3 = ⟨1, st, tr, false, 0⟩ := by simp [tellS, hl]
     rw [e]; exact rtell_13a h hp st tr x hx h1 h2 hl
    ·have e : tellS p ⟨1, st, tr, true, 0⟩ 3 = backS p (st + 1) := by simp [tellS, hl]
     rw [e]; exact rtell_13b h hp st tr x hx h1 h2 (by omega)
  ·rcases hc with rfl | rfl | rfl
   ·have e : tellS p ⟨2, st, tr, true, 0⟩ 1 = backS p st := by simp [tellS]
    rw [e]; exact rtell_21 h hp st tr x hx hb h1 h2
   ·by_cases hl : tr = 2
    ·have e : tellS p ⟨2, st, tr, true, 0⟩ 2 = overS 3 := by simp [tellS, hl]
     rw [e]; exact rtell_22b h hp st tr x hx hb h1 h2 hl
    ·have e : tellS p ⟨2, st, tr, true, 0⟩ 2 = ⟨2, st, tr, false, 0⟩ := by simp [tellS, hl]
     rw [e]; exact rtell_22a h hp st tr x hx hb h1 h2 (by omega)
   ·by_cases hl : tr = 2
    ·have e : tellS p ⟨2, st, tr, true, 0⟩ 3 = overS 3 := by simp [tellS, hl]
     rw [e]; exact rtell_23b h hp st tr x hx hb h1 h2 hl
    ·have e : tellS p ⟨2, st, tr, true, 0⟩ 3 = ⟨2, st, tr, false, 0⟩ := by simp [tellS, hl]
     rw [e]; exact rtell_23a h hp st tr x hx hb h1 h2 (by omega)
end Go.Proofs.YthfjhgdiakciaaaGreat.Bl
