/- New bytes (Copy); a block is written on the document's disk (Write). Condition: the receiver is such a disk, the bytes lie in a row of the call's own. -/
import Derived.Test.YtfhnhkjbfaieiaaR0
import Derived.Laws.AppendOwnNone
namespace Go.Proofs.Ytfhnhkjbfaieiaa.Bl
open Go.RowKit
set_option linter.unusedVariables false
set_option linter.unusedSimpArgs false
theorem copy_a {W : World} {base n : Nat} {v : Value} {x : List Int} (h : W.ownsRow base 5 1 v n (bv x)) (hn : n ≤ 1000000) :
    Calls Try.prog 36 #[v] W fun e W' => ∃ v', e = .returned v' ∧ W'.ownsRow W.heap.size 5 1 v' n (bv x) ∧ Below W.heap.size W W' := by
  obtain ⟨i0, hi0, hz0, hz1, hz2⟩ := info_parts info5
  rcases h.2 with ⟨rfl, rfl⟩ | ⟨g, cap, cur, rfl, hg, hh, hnc, hcm, hcs, htk⟩
  · have hx : bv x = [] := List.eq_nil_of_length_eq_zero (by rw [h.1])
    have hrun := run_append_owned_none (P := Try.prog) (w := W) W.heap.size 33 33 5 i0 1 Try.underlying33 hi0 (.slice none 0 0) 0 [] (World.ownsRow_nil _ _ _ _)
    rw [hx]
    clear h hx
    go_enter Try.func36, Try.ntmps36
    go_wp2_with fail
    go_ret
    exact ⟨_, rfl, World.ownsRow_nil _ _ _ _, Below.refl _ _⟩
  · have HO := As.mk h
    have hlt := blk_lt hh
    have hsrc : As (∀ j u, (bv x)[j]? = some u → W.cell? ((⟨g, 0, none⟩ : Addr).add j) = some u) := ⟨fun j u hu => by
      rw [add0, h.cellAt j (by rw [← h.1]; exact (List.getElem?_eq_some_iff.1 hu).1)]
      exact hu⟩
    have hln := h.1
    clear h hh htk hcs
    go_enter Try.func36, Try.ntmps36
    go_wp2_with ((at_builtin; refine wpList_append_own _ rfl _ _ 33 rfl W.heap.size 5 i0 (.int .u8 0) 1 1 Try.underlying33 hi0 hz0 hz1 hz2 rfl (by omega) (.slice none 0 0) 0 [] rfl (World.ownsRow_nil _ _ _ _) ⟨g, 0, none⟩ n cap (bv x) rfl hln hsrc.out (bv_one _) (by unfold maxLen; omega) (by omega) (Nat.le_refl _) ?_; intro v1 w1 ho1 hg1 hn1))
    have hb1 : As (Below W.heap.size W w1) := ⟨⟨hg1.os, hg1.tape, hg1.output, hg1.size, fun k hk => hg1.block k hk (fun e => by simp [Value.ownBlock] at e)⟩⟩
    have HO1 : As (w1.ownsRow W.heap.size 5 1 v1 n (bv x)) := ⟨by rw [Nat.zero_add, List.nil_append] at ho1; exact ho1⟩
    clear ho1 hg1 hn1
    go_wp2_with fail
    go_ret
    exact ⟨v1, rfl, HO1.out, hb1.out⟩
theorem info71 : (Try.prog.info? 71).map (fun i => (i.zero, i.size, i.bytes)) = some (some (.agg #[.int .i64 0, .slice none 0 0]), 2, 32) := by kernel_rfl
section
variable {W : World} {own : Nat → Prop} {b n : Nat} {r : RSt} {A : Option Addr} {x : List Int}
theorem rwrite_dark (h : RDisk W own b n r) (k : Int) (v : Value) (hd : r.dim = true) :
    Calls Try.prog 30 #[.pointer (some ⟨b, 0, none⟩), .int .i64 k, v] W fun e W' => e = .returned (.int .i64 6) ∧ W = W' := by
  obtain ⟨hok, vs, vw, h⟩ := h
  obtain ⟨_, _, _, _, _, c⟩ := h.cells
  rw [hd] at c
  clear h hok
  go_enter Try.func30, Try.ntmps30
  go_wp2_with fail
  go_ret
  exact ⟨rfl, rfl⟩
theorem rwrite_block (h : RDisk W own b n r) (k : Int) (c : Nat) (m : Nat) (hd : r.dim = false) (hk : k < 0 ∨ (n : Int) ≤ k ∨ m ≠ 64) :
    Calls Try.prog 30 #[.pointer (some ⟨b, 0, none⟩), .int .i64 k, .slice A m c] W fun e W' => e = .returned (.int .i64 150) ∧ W = W' := by
  obtain ⟨hok, vs, vw, h⟩ := h
  obtain ⟨c0, _, _, _, _, c⟩ := h.cells
  rw [hd] at c
  clear h hok hd
  by_cases h1 : k < 0
  · clear hk
    go_enter Try.func30, Try.ntmps30
    go_wp2_with fail
    go_ret
    exact ⟨rfl, rfl⟩
  · by_cases h2 : (n : Int) ≤ k
    · clear hk
      go_enter Try.func30, Try.ntmps30
      go_wp2_with fail
      go_ret
      exact ⟨rfl, rfl⟩
    · have h3 : ((m : Int) != 64) = true := by
        simpa using (show ¬ (m : Int) = 64 by omega)
      clear hk
      go_enter Try.func30, Try.ntmps30
      go_wp2_with fail
      go_ret
      exact ⟨rfl, rfl⟩
theorem rwrite_full (h : RDisk W own b n r) (k : Int) (c : Nat) (hd : r.dim = false) (h1 : ¬ k < 0) (h2 : ¬ (n : Int) ≤ k) (hl : r.limit ≤ k) :
    Calls Try.prog 30 #[.pointer (some ⟨b, 0, none⟩), .int .i64 k, .slice A 64 c] W fun e W' => e = .returned (.int .i64 5) ∧ W = W' := by
  obtain ⟨hok, vs, vw, h⟩ := h
  obtain ⟨c0, _, _, c3, _, c⟩ := h.cells
  rw [hd] at c
  clear h hok hd
  generalize r.limit = l at *
  go_enter Try.func30, Try.ntmps30
  go_wp2_with fail
  go_ret
  exact ⟨rfl, rfl⟩
theorem rwrite_gone (h : RDisk W own b n r) (k : Int) (c : Nat) (hd : r.dim = false) (h1 : ¬ k < 0) (h2 : ¬ (n : Int) ≤ k) (hl : ¬ r.limit ≤ k) (ha : (ractF r).1 = false) :
    Calls Try.prog 30 #[.pointer (some ⟨b, 0, none⟩), .int .i64 k, .slice A 64 c] W fun e W' => e = .returned (.int .i64 6) ∧ RDisk W' own b n (ractF r).2 ∧ Frame own W W' := by
  obtain ⟨hok, vs, vw, h⟩ := h
  obtain ⟨c0, _, _, c3, _, c⟩ := h.cells
  rw [hd] at c
  have OK := As.mk (ract_ok hok)
  have HA := ract_at h hok
  rw [ha] at HA
  have HA := As.mk HA
  clear h hok hd ha
  generalize r.limit = l at *
  go_enter Try.func30, Try.ntmps30
  go_wp2_with fail
  refine HA.out.mono ?_
  rintro e w1 ⟨rfl, q1, q2, _, _⟩
  have Q1 := As.mk q1
  have Q2 := As.mk q2
  clear q1 q2 c0 c3 c HA
  go_wp2_with fail
  go_ret
  exact ⟨rfl, ⟨OK.out, vs, vw, Q1.out⟩, Q2.out⟩
set_option maxHeartbeats 4000000 in
set_option maxRecDepth 100000 in
theorem rwrite_good {base : Nat} (h : RDisk W own b n r) (k : Nat) (c : Nat) (hx : W.ownsRow base 5 1 (.slice A 64 c) 64 (bv x)) (hxo : ByteOk x) (hd : r.dim = false) (h2 : k < n) (hl : ¬ r.limit ≤ k) (ha : (ractF r).1 = true) (hw : r.wait.length < 1000000) :
    Calls Try.prog 30 #[.pointer (some ⟨b, 0, none⟩), .int .i64 (k : Int), .slice A 64 c] W fun e W' => ∃ q cap, e = .returned (.int .i64 0) ∧ RDisk W' (And' own W) b n { (ractF r).2 with wait := r.wait ++ [⟨k, q, cap, x⟩] } ∧ Frame own W W' := by
  have hx64 : x.length = 64 := by have := hx.1; rw [bv_len] at this; omega
  have hq := own_lt hx
  obtain ⟨hok, vs, vw, h⟩ := h
  obtain ⟨c0, _, _, c3, _, c5⟩ := h.cells
  rw [hd] at c5
  have HA := ract_at h hok
  rw [ha] at HA
  have HA := As.mk HA
  have H := As.mk h
  have OK := As.mk hok
  have HX := As.mk hx
  have hn : n ≤ 1024 := hok.n2
  have hl' : (k : Int) < r.limit := by omega
  have h2' : (k : Int) < n := by omega
  have hbx : As (∀ g, (Value.slice A 64 c).ownBlock = some g → g ≠ b) := ⟨own_ne hx h.blk (by decide)⟩
  clear h hok hd ha hx hl
  generalize r.limit = l at *
  go_enter Try.func30, Try.ntmps30
  go_wp2_with fail
  refine HA.out.mono ?_
  rintro e w1 ⟨rfl, q1, q2, q3, q4⟩
  have Q1 := As.mk q1
  have Q2 := As.mk q2
  have HX1 : As (w1.ownsRow base 5 1 (.slice A 64 c) 64 (bv x)) := ⟨own_keep HX.out (fun g hg _ => q3 g (hbx.out g hg))⟩
  have Q4 := As.mk q4
  have E1 := As.mk (ract_same r)
  have OKA := As.mk (ract_ok OK.out)
  clear q1 q2 q3 q4 c0 c3 c5 HA HX
  generalize hra : (ractF r).2 = ra at *
  have HRA := As.mk hra
  clear hra
  obtain ⟨d0, d1, d2, d3, d4, d5⟩ := Q1.out.cells
  go_upto_region 10 with fail
  refine wp_region_plan_held 13 (fun w' => w'.cell? ⟨b, 2, none⟩ = some vw) [(1, 0), (1, 1), (1, 2), (1, 3), (0, 4), (1, 5), (1, 6), (2, 7), (1, 8), (2, 9), (2, 10), (1, 11), (1, 12), (2, 13)] (by kernel_rfl) (by kernel_rfl) (by kernel_rfl) (by kernel_rfl) (fun _ _ _ _ _ h => h) d2 ?_
  simp only [tagged, List.filterMap_cons, List.filterMap_nil, List.getElem?_toArray, List.getElem?_cons_succ, List.getElem?_cons_zero, Option.map_some]
  iterate 4 (refine wpHeld_sure (fun K hK => ?_); go_simp; refine hK _ ?_; clear hK K)
  refine wpHeld_take (fun K hK => ?_)
  rw [if_pos (by rfl)]
  apply Exists.intro
  refine ⟨fun w' hw' => ?_, hK _ ?_⟩
  · go_simp
    rfl
  clear hK K
  iterate 2 (refine wpHeld_sure (fun K hK => ?_); go_simp; refine hK _ ?_; clear hK K)
  refine wpHeld_next (fun K hK => ?_)
  go_simp
  have hd0 : Below w1.heap.size w1 w1.drew := (Below.refl _ _).drew
  refine (copy_a (W := w1.drew) (own_keep HX1.out (fun _ _ _ => rfl)) (by omega)).mono ?_
  rintro e0 w3 ⟨v', rfl, ho3, hb3⟩
  have hb3 : Below w1.heap.size w1 w3 := hd0.trans hb3
  have ho3 : w3.ownsRow w1.heap.size 5 1 v' 64 (bv x) := ho3
  obtain ⟨q, cap, rfl, hqb, hql⟩ := ho3.form (by omega)
  have HO3 := As.mk ho3
  have hs3 := hb3.size
  have HD3 := As.mk (Q1.out.keep (fun k _ hl => hb3.block k hl))
  have F3 : As (Frame own W w3) := ⟨Q2.out.trans (Frame.of_below (own := own) hb3 (Nat.le_refl _)) (fun _ _ h => h)⟩
  clear d0 d1 d2 d3 d4 d5 Q1 Q2 hb3 ho3 hd0 HX1
  obtain ⟨d0, d1, d2, d3, d4, d5⟩ := HD3.out.cells
  refine hK _ _ (fun _ => d2) ?_
  clear hK K
  refine wpHeld_sure (fun K hK => ?_); go_simp; refine hK _ ?_; clear hK K
  refine wpHeld_next (fun K hK => ?_)
  go_simp
  generalize hW6 : w3.alloc (.cells #[.int .i64 k, .slice (some ⟨q, 0, none⟩) 64 cap] 71 (0, 0)) = w6
  have hD6 := As.mk (HD3.out.keep (W' := w6) (fun k _ hl => by rw [← hW6]; exact Below.heap_alloc _ _ _ hl))
  have HO6 : As (w6.ownsRow w1.heap.size 5 1 (.slice (some ⟨q, 0, none⟩) 64 cap) 64 (bv x)) := ⟨by rw [← hW6]; exact HO3.out.alloc _⟩
  have hN6 : As (w6.heap[w3.heap.size]? = some (.cells #[.int .i64 k, .slice (some ⟨q, 0, none⟩) 64 cap] 71 (0, 0))) := ⟨by rw [← hW6]; exact blk_new w3 _⟩
  have hF6 : As (Frame own W w6) := ⟨by rw [← hW6]; exact F3.out.alloc _⟩
  have hs6 : w6.heap.size = w3.heap.size + 1 := by rw [← hW6]; simp
  clear hW6 d0 d1 d2 d3 d4 d5 HD3 HO3 F3
  obtain ⟨d0, d1, d2, d3, d4, d5⟩ := hD6.out.cells
  refine hK _ _ (fun _ => d2) ?_
  clear hK K
  have hww : r.wait.length = ra.wait.length := by rw [E1.out.2.1]
  refine wpHeld_next (fun K hK => ?_)
  obtain ⟨i0, hi0, hz0, hz1, hz2⟩ := info_parts info71
  refine step_append_lies w6 (by rfl) _ _ _ (by rfl) 0 71 i0 _ 2 32 Try.underlying51 hi0 hz0 hz1 hz2 (by rfl) (by omega) vw ra.wait.length (flatR ra.wait) (by rfl) hD6.out.wait
    ⟨w3.heap.size, 0, none⟩ 1 1 (rv ⟨k, q, cap, x⟩) (by rfl) (by rfl) (fun j u hu => World.news_of_block hN6.out j u (by rw [← hu]; simp [rv, hx64])) (rv_one _) (by omega) (by unfold maxLen; omega) (by omega) (by omega) (w3.heap.size + 1) hs6 ?_
  intro gg gcap w7 hown7 hgrow7 hat7 hlt7
  have hvlt : ∀ g, vw.ownBlock = some g → g < W.heap.size := own_lt H.out.wait
  have hne5 : ∀ (g t : Nat) (cs : Array Value), w6.heap[g]? = some (.cells cs t (0, 0)) → t ≠ 71 → vw.ownBlock ≠ some g := fun g t cs hg ht e => own_ne hD6.out.wait hg ht g e rfl
  have hkp : ∀ g, g < w6.heap.size → vw.ownBlock ≠ some g → w7.heap[g]? = w6.heap[g]? := fun g hg hv => hgrow7.block g hg (fun e => hv e.symm)
  have hBR7 : As (w7.heap[b]? = some (.cells #[.int .i64 n, vs, vw, .int .i64 ra.limit, .int .i64 ra.left, .bool ra.dim] 53 (0, 0))) := ⟨(hkp b (blk_lt hD6.out.blk) (hne5 _ _ _ hD6.out.blk (by decide))).trans hD6.out.blk⟩
  have hS7 : As (w7.ownsRow 0 71 2 vs ra.sure.length (flatR ra.sure)) := ⟨own_keep hD6.out.sure (fun g hg hl => hkp g hl (hD6.out.ne g hg))⟩
  have hdat : ∀ y : RW, Data w6 (And' own W) n y → Data w7 (And' own W) n y := fun y hy => hy.keep (by
    obtain ⟨cur, hc, _⟩ := own_block hy.row
    exact hkp _ (blk_lt hc) (hne5 _ _ _ hc (by decide)))
  have hD1 : As (∀ y ∈ ra.sure, Data w7 (And' own W) n y) := ⟨fun y hy => hdat y ((hD6.out.d1 y hy).mono (fun h _ => .inl h))⟩
  have hD2 : As (∀ y ∈ ra.wait, Data w7 (And' own W) n y) := ⟨fun y hy => hdat y ((hD6.out.d2 y hy).mono (fun h _ => .inl h))⟩
  have hDN : As (Data w7 (And' own W) n ⟨k, q, cap, x⟩) := ⟨hdat _ ⟨.inr (by show W.heap.size ≤ q; have := Q4.out; omega), by show w6.ownsRow 0 5 1 (.slice (some ⟨q, 0, none⟩) x.length cap) x.length (bv x); rw [hx64]; exact own_base HO6.out, h2, by show x.length ≤ 64; omega, hxo⟩⟩
  have hF7 : As (Frame own W w7) := ⟨hF6.out.grown hgrow7 (fun k hk => .inl (hD6.out.o2 k hk))⟩
  have hwt7 : As (w7.ownsRow 0 71 2 (.slice (some ⟨gg, 0, none⟩) (ra.wait.length + 1) gcap) (ra.wait.length + 1) (flatR ra.wait ++ rv ⟨k, q, cap, x⟩)) := ⟨hown7⟩
  have hgg7 : As (own gg ∨ W.heap.size ≤ gg) := ⟨by
    rcases hat7 with h | h
    · exact .inl (hD6.out.o2 gg h)
    · right; have := Q4.out; omega⟩
  have hgs7 : As (∀ g, vs.ownBlock = some g → gg ≠ g) := ⟨fun g hg e => by
    subst e
    rcases hat7 with h | h
    · exact hD6.out.ne _ hg h
    · have := own_lt hD6.out.sure _ hg; omega⟩
  have hO0 := As.mk hD6.out.o0
  have hO1 := As.mk hD6.out.o1
  clear hown7 hgrow7 hat7 hlt7 hD6 hN6 hF6 hkp hdat hne5 HO6 d0 d1 d2 d3 d4 d5
  have d2 := (blk_cell hBR7.out 2).trans rfl
  have f2 := blk_frozen hBR7.out 2
  refine hK _ _ (fun _ => d2) ?_
  clear hK K
  iterate 2 (refine wpHeld_sure (fun K hK => ?_); go_simp; refine hK _ ?_; clear hK K)
  refine wpHeld_next (fun K hK => ?_)
  go_simp
  refine hK _ _ (fun h => absurd rfl h) ?_
  clear hK K
  refine wpHeld_nil ?_
  go_wp2_with fail
  go_ret
  rw [HRA.out]
  refine ⟨q, cap, rfl, ⟨⟨OKA.out.n1, OKA.out.n2, OKA.out.l1, OKA.out.l2, fun y hy => ?_⟩, vs, .slice (some ⟨gg, 0, none⟩) (ra.wait.length + 1) gcap, ?_⟩, hF7.out.setCell (p := ⟨b, 2, none⟩) (.inl hO0.out) _⟩
  · rcases List.mem_append.1 hy with hy | hy
    · exact OK.out.full y hy
    · obtain rfl : y = ⟨k, q, cap, x⟩ := by simpa using hy
      exact hx64
  · refine ⟨?_, ?_, ?_, fun g hg e => hgs7.out g hg (ob_eq e), .inl hO0.out, fun g hg => .inl (hO1.out g hg), fun g hg => by rw [← ob_eq hg]; exact hgg7.out, fun y hy => ?_, fun y hy => ?_⟩
    · rw [blk_put hBR7.out 2]
      simp
    · exact own_keep hS7.out (fun g hg _ => Below.heap_setCell _ _ _ _ (own_ne hS7.out hBR7.out (by decide) g hg))
    · show (w7.setCell ⟨b, 2, none⟩ _).ownsRow 0 71 2 _ (r.wait ++ [(⟨k, q, cap, x⟩ : RW)]).length (flatR (r.wait ++ [(⟨k, q, cap, x⟩ : RW)]))
      rw [flatR_app, flatR_one, List.length_append, ← E1.out.2.1]
      exact own_keep hwt7.out (fun g hg _ => Below.heap_setCell _ _ _ _ (own_ne hwt7.out hBR7.out (by decide) g hg))
    · exact (hD1.out y hy).keep (Below.heap_setCell _ _ _ _ ((hD1.out y hy).ne hBR7.out (by decide)))
    · have hy : y ∈ r.wait ++ [(⟨k, q, cap, x⟩ : RW)] := hy
      have hyd : Data w7 (And' own W) n y := by
        rcases List.mem_append.1 hy with hy | hy
        · exact hD2.out y (by rw [E1.out.2.1]; exact hy)
        · obtain rfl : y = ⟨k, q, cap, x⟩ := by simpa using hy
          exact hDN.out
      exact hyd.keep (Below.heap_setCell _ _ _ _ (hyd.ne hBR7.out (by decide)))
end
end Go.Proofs.Ytfhnhkjbfaieiaa.Bl
