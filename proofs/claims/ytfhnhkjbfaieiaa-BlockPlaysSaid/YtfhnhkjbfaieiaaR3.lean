/- The document's disk crashes (Crash). Condition: the receiver is such a disk. -/
import Derived.Test.YtfhnhkjbfaieiaaR2
namespace Go.Proofs.Ytfhnhkjbfaieiaa.Bl
open Go.RowKit
set_option linter.unusedVariables false
set_option linter.unusedSimpArgs false
theorem size71 : (Try.prog.info? 71).map (·.size) = some 2 := by kernel_rfl
theorem own_cut {W : World} {base g n c : Nat} {xs : List Value} (h : W.ownsRow base 5 1 (.slice (some ⟨g, 0, none⟩) n c) n xs) (k : Nat) (hk : k ≤ n) : W.ownsRow base 5 1 (.slice (some ⟨g, 0, none⟩) k c) k (xs.take k) := by
  obtain ⟨h1, h2⟩ := h
  rcases h2 with h2 | ⟨g', cap, cur, hv, hg, hh, r1, r2, r3, r4⟩
  · cases h2.1
  · injection hv with e1 _ e3
    injection e1 with e1
    injection e1 with e1
    subst e1 e3
    refine ⟨by rw [List.length_take]; omega, .inr ⟨g, c, cur, rfl, hg, hh, by omega, r2, r3, ?_⟩⟩
    rw [← r4, List.take_take]
    congr 1
    omega
def RW.cut (x : RW) (c : Nat) : RW := { x with b := x.b.take c }
theorem Data.cut {W : World} {own : Nat → Prop} {n : Nat} {x : RW} (h : Data W own n x) (c : Nat) (hc : c ≤ x.b.length) : Data W own n (x.cut c) := by
  refine ⟨h.own, ?_, h.pos, by have := h.len; show (x.b.take c).length ≤ 64; rw [List.length_take]; omega, fun y hy => h.ok y (List.mem_of_mem_take hy)⟩
  have := own_cut h.row c hc
  show W.ownsRow 0 5 1 (.slice (some ⟨x.q, 0, none⟩) (x.b.take c).length x.cap) (x.b.take c).length (bv (x.b.take c))
  have e : (x.b.take c).length = c := by rw [List.length_take]; omega
  rw [e]
  have e2 : bv (x.b.take c) = (bv x.b).take c := by simp [bv]
  rw [e2]
  exact this
/-- One write more in the sure row: what was appended is stored. -/
theorem RAt.grow {w6 w7 : World} {own : Nat → Prop} {b n : Nat} {r : RSt} {vs vw : Value} {x : RW} {g cap : Nat} (h : RAt w6 own b n r vs vw) (hgrow : w6.grownBy w7 vs.ownBlock)
    (hown : w7.ownsRow 0 71 2 (.slice (some ⟨g, 0, none⟩) (r.sure.length + 1) cap) (r.sure.length + 1) (flatR r.sure ++ rv x)) (hat : vs.ownBlock = some g ∨ own g) (hne : vw.ownBlock ≠ some g) (hx : Data w6 own n x) :
    w7.heap[b]? = some (.cells #[.int .i64 n, vs, vw, .int .i64 r.limit, .int .i64 r.left, .bool r.dim] 53 (0, 0)) ∧
    RAt (w7.setCell ⟨b, 1, none⟩ (.slice (some ⟨g, 0, none⟩) (r.sure.length + 1) cap)) own b n { r with sure := r.sure ++ [x] } (.slice (some ⟨g, 0, none⟩) (r.sure.length + 1) cap) vw := by
  have hne5 : ∀ (g t : Nat) (cs : Array Value), w6.heap[g]? = some (.cells cs t (0, 0)) → t ≠ 71 → vs.ownBlock ≠ some g := fun g t cs hg ht e => own_ne h.sure hg ht g e rfl
  have hkp : ∀ g, g < w6.heap.size → vs.ownBlock ≠ some g → w7.heap[g]? = w6.heap[g]? := fun g hg hv => hgrow.block g hg (fun e => hv e.symm)
  have hB : w7.heap[b]? = some (.cells #[.int .i64 n, vs, vw, .int .i64 r.limit, .int .i64 r.left, .bool r.dim] 53 (0, 0)) := (hkp b (blk_lt h.blk) (hne5 _ _ _ h.blk (by decide))).trans h.blk
  have hdat : ∀ y : RW, Data w6 own n y → Data w7 own n y := fun y hy => hy.keep (by
    obtain ⟨cur, hc, _⟩ := own_block hy.row
    exact hkp _ (blk_lt hc) (hne5 _ _ _ hc (by decide)))
  have hW : w7.ownsRow 0 71 2 vw r.wait.length (flatR r.wait) := own_keep h.wait (fun k hk hl => hkp k hl (fun e => h.ne k e hk))
  refine ⟨hB, by rw [blk_put hB 1]; simp, ?_, own_keep hW (fun k hk _ => Below.heap_setCell _ _ _ _ (own_ne hW hB (by decide) k hk)), fun k hk e => ?_, h.o0, fun k hk => ?_, h.o2, fun y hy => ?_, fun y hy => ?_⟩
  · show (w7.setCell ⟨b, 1, none⟩ _).ownsRow 0 71 2 _ (r.sure ++ [x]).length (flatR (r.sure ++ [x]))
    rw [flatR_app, flatR_one, List.length_append]
    exact own_keep hown (fun k hk _ => Below.heap_setCell _ _ _ _ (own_ne hown hB (by decide) k hk))
  · obtain rfl := ob_eq hk
    exact hne e
  · obtain rfl := ob_eq hk
    rcases hat with hat | hat
    · exact h.o1 _ hat
    · exact hat
  · have hyd : Data w7 own n y := by
      rcases List.mem_append.1 hy with hy | hy
      · exact hdat y (h.d1 y hy)
      · obtain rfl : y = x := by simpa using hy
        exact hdat y hx
    exact hyd.keep (Below.heap_setCell _ _ _ _ (hyd.ne hB (by decide)))
  · have hyd := hdat y (h.d2 y hy)
    exact hyd.keep (Below.heap_setCell _ _ _ _ (hyd.ne hB (by decide)))
theorem RAt.nowait {W : World} {own : Nat → Prop} {b n : Nat} {r : RSt} {vs vw : Value} (h : RAt W own b n r vs vw) : RAt (W.setCell ⟨b, 2, none⟩ (.slice none 0 0)) own b n { r with wait := [] } vs (.slice none 0 0) := by
  have hk : ∀ k, k ≠ b → (W.setCell ⟨b, 2, none⟩ (.slice none 0 0)).heap[k]? = W.heap[k]? := fun k hk => Below.heap_setCell _ _ _ _ hk
  refine ⟨by rw [blk_put h.blk 2]; simp, ?_, World.ownsRow_nil _ _ _ _, fun g _ e => by simp [Value.ownBlock] at e, h.o0, h.o1, fun g e => by simp [Value.ownBlock] at e, fun y hy => (h.d1 y hy).keep (hk _ ((h.d1 y hy).ne h.blk (by decide))), fun y hy => by cases hy⟩
  exact own_keep h.sure (fun g hg _ => hk g (own_ne h.sure h.blk (by decide) g hg))
theorem RAt.done {W : World} {own : Nat → Prop} {b n : Nat} {r : RSt} {vs vw : Value} (h : RAt W own b n r vs vw) :
    RAt (((W.setCell ⟨b, 2, none⟩ (.slice none 0 0)).setCell ⟨b, 4, none⟩ (.int .i64 (-1))).setCell ⟨b, 5, none⟩ (.bool false)) own b n { r with wait := [], left := -1, dim := false } vs (.slice none 0 0) :=
  (h.nowait.field (r' := { r with wait := [], left := -1 }) 4 (.int .i64 (-1)) (by simp) rfl rfl).field (r' := { r with wait := [], left := -1, dim := false }) 5 (.bool false) (by simp) rfl rfl
def rcrashF (r : RSt) (keep cut : Int) : RSt :=
  { sure := r.sure ++ r.wait.take keep.toNat ++ (match r.wait[keep.toNat]? with | some x => [x.cut (cutN cut)] | none => []), wait := [], limit := r.limit, left := -1, dim := false }
section
variable {W : World} {own : Nat → Prop} {b n : Nat} {r : RSt}
set_option maxHeartbeats 4000000 in
set_option maxRecDepth 100000 in
theorem rcrash_a (h : RDisk W own b n r) (keep cut : Int) (hw : r.sure.length + r.wait.length < 1000000) (hkp : -9223372036854775808 ≤ keep) :
    Calls Try.prog 35 #[.pointer (some ⟨b, 0, none⟩), .int .i64 keep, .int .i64 cut] W fun e W' => e = .returned (.tuple #[]) ∧ RDisk W' (And' own W) b n (rcrashF r keep cut) ∧ Frame own W W' := by
  obtain ⟨hok, vs0, vw, h⟩ := h
  have OK := As.mk hok
  have hn : n ≤ 1024 := hok.n2
  have hv : ∃ A k, vw = .slice A r.wait.length k := by
    rcases h.wait.2 with ⟨hv, h0⟩ | ⟨g, cap, _, hv, _⟩
    · rw [hv, h0]; exact ⟨_, _, rfl⟩
    · exact ⟨_, _, hv⟩
  obtain ⟨A, kc, rfl⟩ := hv
  have H := As.mk h
  have hlen : r.wait.length ≤ 1000000 := by omega
  have hlen2 : As (r.sure.length + r.wait.length < 1000000) := ⟨hw⟩
  have hO0 := As.mk h.o0
  have hvw : As (∀ g, (Value.slice A r.wait.length kc).ownBlock = some g → g < W.heap.size) := ⟨own_lt h.wait⟩
  obtain ⟨i0, hi0, hz0, hz1, hz2⟩ := info_parts info71
  clear h hok hw
  go_enter Try.func35, Try.ntmps35
  go_upto_block 0 with fail
  go_cut [6] from 8 to 37 (fun v6 wc => ∃ vs, As (RAt wc (And' own W) b n { r with sure := r.sure ++ r.wait.take keep.toNat } vs (.slice A r.wait.length kc)) ∧ As (Frame own W wc))
  case first =>
    go_wp2_with fail
    go_loopg [6] r.wait.length (fun gk v6 w' => ∃ (i : Nat) (vs : Value), v6 = .int .i64 i ∧ As (gk = r.wait.length - i) ∧ As (i ≤ r.wait.length) ∧ As (i ≤ keep.toNat) ∧ As (RAt w' (And' own W) b n { r with sure := r.sure ++ r.wait.take i } vs (.slice A r.wait.length kc)) ∧ As (Frame own W w'))
    case atStart => exact ⟨0, vs0, rfl, ⟨rfl⟩, ⟨Nat.zero_le _⟩, ⟨Nat.zero_le _⟩, ⟨by rw [List.take_zero, List.append_nil]; exact H.out.mono fun _ h _ => .inl h⟩, ⟨Frame.refl _ _⟩⟩
    case round =>
      obtain ⟨i, vs, rfl, HK, HI, HKP, HD, HF⟩ := hrel
      obtain ⟨d0, d1, d2, d3, d4, d5⟩ := HD.out.cells
      by_cases hi : i < r.wait.length
      · by_cases hk : (i : Int) < keep
        · obtain ⟨gw, cp, hA, _, _⟩ := HD.out.wait.form (show 0 < _ from by show 0 < r.wait.length; omega)
          have hA' : A = some ⟨gw, 0, none⟩ := by injection hA
          subst hA'
          clear hA
          have hx : r.wait[i]? = some r.wait[i] := List.getElem?_eq_getElem hi
          have hDX := As.mk (HD.out.d2 _ (List.getElem_mem hi))
          have hr : wr.rangeAt gw (i * 2) (rv r.wait[i]) := own_range HD.out.wait _ _ (fun j u hu => by
            have hj : j < 2 := (List.getElem?_eq_some_iff.1 hu).1
            show (flatR r.wait)[_]? = _
            rw [flatR_at _ i j hj, hx]
            exact hu)
          have htk : As (r.wait.take (i + 1) = r.wait.take i ++ [r.wait[i]]) := ⟨by rw [List.take_add_one, hx]; rfl⟩
          generalize r.wait[i] = x at *
          clear hx
          go_upto_region 3 with fail
          refine wp_region_plan_held 16 (fun w' => w'.cell? ⟨b, 1, none⟩ = some vs ∧ w'.cell? ⟨b, 2, none⟩ = some (.slice (some ⟨gw, 0, none⟩) r.wait.length kc) ∧ w'.rangeAt gw (i * 2) (rv x)) [(1, 0), (1, 1), (1, 2), (1, 3), (0, 4), (1, 5), (1, 6), (1, 7), (0, 8), (1, 9), (1, 10), (0, 11), (2, 12), (2, 13), (1, 14), (1, 15), (2, 16)] (by kernel_rfl) (by kernel_rfl) (by kernel_rfl) (by kernel_rfl) (fun _ _ _ _ _ h => h) ⟨d1, d2, hr⟩ ?_
          simp only [tagged, List.filterMap_cons, List.filterMap_nil, List.getElem?_toArray, List.getElem?_cons_succ, List.getElem?_cons_zero, Option.map_some]
          iterate 4 (refine wpHeld_sure (fun K hK => ?_); go_simp; refine hK _ ?_; clear hK K)
          refine wpHeld_take (fun K hK => ?_)
          rw [if_pos (by rfl)]
          apply Exists.intro
          refine ⟨fun w' hw' => ?_, hK _ ?_⟩
          · obtain ⟨hw1, hw2, hw3⟩ := hw'
            go_simp
            rfl
          clear hK K
          iterate 3 (refine wpHeld_sure (fun K hK => ?_); go_simp; refine hK _ ?_; clear hK K)
          refine wpHeld_take (fun K hK => ?_)
          rw [if_pos (by rfl)]
          apply Exists.intro
          refine ⟨fun w' hw' => ?_, hK _ ?_⟩
          · obtain ⟨hw1, hw2, hw3⟩ := hw'
            go_simp
            rfl
          clear hK K
          iterate 2 (refine wpHeld_sure (fun K hK => ?_); go_simp; refine hK _ ?_; clear hK K)
          refine wpHeld_take (fun K hK => ?_)
          rw [if_pos (by rfl)]
          apply Exists.intro
          refine ⟨fun w' hw' => ?_, hK _ ?_⟩
          · obtain ⟨hw1, hw2, hw3⟩ := hw'
            exact exec_load_mid _ _ _ 71 (.tmp 32) rfl gw (i * 2) rfl (rv x) _ hw3 Try.underlying71 rfl size71
          clear hK K
          refine wpHeld_next (fun K hK => ?_)
          simp only [rv, List.size_toArray]
          go_simp
          generalize hW6 : (wr.alloc (.cells #[.int .i64 x.pos, .slice (some ⟨x.q, 0, none⟩) x.b.length x.cap] 71 (0, 0))).drew = w6
          have hD6 := As.mk (HD.out.keep (W' := w6) (fun k _ hl => by rw [← hW6]; exact Below.heap_alloc _ _ _ hl))
          have hN6 : As (w6.heap[wr.heap.size]? = some (.cells #[.int .i64 x.pos, .slice (some ⟨x.q, 0, none⟩) x.b.length x.cap] 71 (0, 0))) := ⟨by rw [← hW6]; exact blk_new wr _⟩
          have hF6 : As (Frame own W w6) := ⟨by rw [← hW6]; exact (HF.out.alloc _).drew⟩
          have hs6 : w6.heap.size = wr.heap.size + 1 := by rw [← hW6]; simp
          have hr6 : w6.rangeAt gw (i * 2) (rv x) := range_heap hr (by rw [← hW6]; exact Below.heap_alloc _ _ _ (own_lt HD.out.wait gw rfl))
          have hDX6 := As.mk (hDX.out.keep (W' := w6) (by
            obtain ⟨cur, hc, _⟩ := own_block hDX.out.row
            rw [← hW6]; exact Below.heap_alloc _ _ _ (blk_lt hc)))
          have hWs : As (W.heap.size ≤ wr.heap.size) := ⟨HF.out.low.size⟩
          have hvw' := hvw.out gw rfl
          have hgs : As (∀ g, vs.ownBlock = some g → g < wr.heap.size) := ⟨own_lt HD.out.sure⟩
          clear hW6 d0 d1 d2 d3 d4 d5 HD HF hr hDX
          obtain ⟨d0, d1, d2, d3, d4, d5⟩ := hD6.out.cells
          refine hK _ _ (fun _ => ⟨d1, d2, hr6⟩) ?_
          clear hK K
          have hsl : (r.sure ++ r.wait.take i).length = r.sure.length + i := by rw [List.length_append, List.length_take]; omega
          refine wpHeld_next (fun K hK => ?_)
          refine step_append_lies w6 (by rfl) _ _ _ (by rfl) 0 71 i0 _ 2 32 Try.underlying51 hi0 hz0 hz1 hz2 (by rfl) (by omega) vs (r.sure ++ r.wait.take i).length (flatR (r.sure ++ r.wait.take i)) (by rfl) hD6.out.sure
            ⟨wr.heap.size, 0, none⟩ 1 1 (rv x) (by rfl) (by rfl) (World.news_of_block hN6.out) (rv_one _) (by omega) (by have := hlen2.out; unfold maxLen; omega) (by have := hlen2.out; omega) (by omega) (wr.heap.size + 1) hs6 ?_
          intro gg gcap w7 hown7 hgrow7 hat7 hlt7
          have hgne : (Value.slice (some ⟨gw, 0, none⟩) r.wait.length kc).ownBlock ≠ some gg := fun e => by
            obtain rfl : gw = gg := ob_eq e
            rcases hat7 with h | h
            · exact hD6.out.ne _ h rfl
            · have := hWs.out; omega
          have hG := hD6.out.grow hgrow7 hown7 (by rcases hat7 with h | h; exact .inl h; exact .inr (.inr (by have := hWs.out; omega))) hgne hDX6.out
          have hBR7 := As.mk hG.1
          have hG2 := hG.2
          rw [hsl] at hG2
          have hG7 := As.mk hG2
          clear hG2
          have hF7 : As (Frame own W w7) := ⟨hF6.out.grown hgrow7 (fun k hk => hD6.out.o1 k hk)⟩
          have hr7 : w7.rangeAt gw (i * 2) (rv x) := range_heap hr6 (hgrow7.block gw (by have := hWs.out; omega) (fun e => hD6.out.ne _ e.symm rfl))
          clear hG hown7 hgrow7 hat7 hlt7 hN6 hF6 hr6 hDX6 d0 d1 d2 d3 d4 d5
          have d1 := (blk_cell hBR7.out 1).trans rfl
          have d2 := (blk_cell hBR7.out 2).trans rfl
          have f1 := blk_frozen hBR7.out 1
          refine hK _ _ (fun _ => ⟨d1, d2, hr7⟩) ?_
          clear hK K
          iterate 2 (refine wpHeld_sure (fun K hK => ?_); go_simp; refine hK _ ?_; clear hK K)
          refine wpHeld_next (fun K hK => ?_)
          go_simp
          refine hK _ _ (fun h => absurd rfl h) ?_
          clear hK K
          refine wpHeld_nil ?_
          clear d1 d2 f1 hr7 hBR7
          generalize hv9 : Value.slice (some ⟨gg, 0, none⟩) (r.sure.length + i + 1) gcap = v9 at *
          have hF8 : As (Frame own W (w7.setCell ⟨b, 1, none⟩ v9)) := ⟨hF7.out.setCell (p := ⟨b, 1, none⟩) (.inl (hO0.out)) _⟩
          generalize w7.setCell ⟨b, 1, none⟩ v9 = w8 at *
          clear hF7 hD6
          go_wp2_with fail
          go_roundg (r.wait.length - (i + 1))
          case measure => have := HK.out; omega
          case rel => exact ⟨i + 1, v9, by go_num, ⟨rfl⟩, ⟨hi⟩, ⟨by omega⟩, ⟨by rw [htk.out, ← List.append_assoc]; exact hG7.out⟩, hF8⟩
        · have hi' : i = keep.toNat := by have := HKP.out; omega
          go_wp2_with fail
          go_meet
          case rel => exact ⟨vs, by rw [← hi']; exact HD, HF⟩
      · obtain rfl : i = r.wait.length := by have := HI.out; omega
        go_wp2_with fail
        go_meet
        case rel =>
          refine ⟨vs, ⟨?_⟩, HF⟩
          have := HD.out
          rw [List.take_of_length_le (Nat.le_refl _)] at this
          rw [List.take_of_length_le HKP.out]
          exact this
  case rest =>
    obtain ⟨vs, HD, HF⟩ := hcut
    generalize hkd : keep.toNat = K at *
    have HKD := As.mk hkd
    clear hkd
    go_upto_if 39 with fail
    go_cut [1] from 38 to 39 (fun v1 w' => v1 = .int .i64 (K : Int) ∧ w' = wc)
    case first =>
      by_cases hk : keep < 0
      · go_wp2_with fail
        go_meet
        case rel => exact ⟨by rw [← HKD.out, show keep.toNat = 0 by omega]; rfl, rfl⟩
      · go_wp2_with fail
        go_meet
        case rel => exact ⟨by rw [← HKD.out, show (keep.toNat : Int) = keep by omega], rfl⟩
    case rest =>
      obtain ⟨rfl, rfl⟩ := hcut
      go_upto_if 41 with fail
      go_cut [2] from 40 to 41 (fun v2 w' => v2 = .int .i64 (if cut < 0 then 0 else cut) ∧ w' = wc)
      case first =>
        by_cases hk : cut < 0
        · go_wp2_with fail
          go_meet
          case rel => exact ⟨by rw [if_pos (by omega)], rfl⟩
        · go_wp2_with fail
          go_meet
          case rel => exact ⟨by rw [if_neg (by omega)], rfl⟩
      case rest =>
        obtain ⟨rfl, rfl⟩ := hcut
        have hcc : (if cut < 0 then 0 else cut) = 65 ∨ True := .inr trivial
        generalize hc2 : (if cut < 0 then 0 else cut) = cut2
        have hcn : As ((cutN cut : Int) = if cut2 > 64 then 64 else cut2) := ⟨by
          subst hc2
          unfold cutN
          split
          · simp
          · split
            · rfl
            · omega⟩
        clear hcc hc2
        have hcl := cutN_le cut
        generalize hcd : cutN cut = c at *
        have HCD := As.mk hcd
        clear hcd
        go_upto_if 43 with fail
        go_cut [2] from 42 to 43 (fun v2 w' => v2 = .int .i64 (c : Int) ∧ w' = wc)
        case first =>
          by_cases hk : cut2 > 64
          · go_wp2_with fail
            go_meet
            case rel => exact ⟨by rw [hcn.out, if_pos (by omega)], rfl⟩
          · go_wp2_with fail
            go_meet
            case rel => exact ⟨by rw [hcn.out, if_neg (by omega)], rfl⟩
        case rest =>
          obtain ⟨rfl, rfl⟩ := hcut
          clear hcn
          by_cases hK : K < r.wait.length
          · obtain ⟨gw, cp, hA, _, _⟩ := HD.out.wait.form (show 0 < _ from by show 0 < r.wait.length; omega)
            have hA' : A = some ⟨gw, 0, none⟩ := by injection hA
            subst hA'
            clear hA
            have hx : r.wait[K]? = some r.wait[K] := List.getElem?_eq_getElem hK
            have hDX := As.mk (HD.out.d2 _ (List.getElem_mem hK))
            have hr := As.mk (show wc.rangeAt gw (K * 2) (rv r.wait[K]) from own_range HD.out.wait _ _ (fun j u hu => by
              have hj : j < 2 := (List.getElem?_eq_some_iff.1 hu).1
              show (flatR r.wait)[_]? = _
              rw [flatR_at _ K j hj, hx]
              exact hu))
            have hx64 := OK.out.full _ (List.getElem_mem hK)
            have HR : As (rcrashF r keep cut = { r with sure := r.sure ++ r.wait.take K ++ [r.wait[K].cut c], wait := [], left := -1, dim := false }) := ⟨by
              unfold rcrashF
              rw [HKD.out, hx, HCD.out]⟩
            generalize r.wait[K] = x at *
            have HX64 := As.mk hx64
            clear hx hx64
            obtain ⟨d0, d1, d2, d3, d4, d5⟩ := HD.out.cells
            go_upto_region 12 with (first | (refine wpList_load_mid rfl 71 (.tmp 56) rfl gw (K * 2) rfl [.int .i64 x.pos, .slice (some ⟨x.q, 0, none⟩) x.b.length x.cap] _ hr.out Try.underlying71 rfl size71 ?_))
            have hcap : x.b.length ≤ x.cap := by
              obtain ⟨cur, _, _, h3, _⟩ := own_block hDX.out.row
              omega
            have hcc : (c : Int) ≤ x.cap := by have := HX64.out; omega
            have hc0 : (0 : Int) ≤ (c : Int) := by omega
            have hvw' := hvw.out gw rfl
            have hvsb := As.mk (own_lt HD.out.sure)
            have hWs : As (W.heap.size ≤ wc.heap.size) := ⟨HF.out.low.size⟩
            generalize hW5 : wc.alloc (.cells #[.int .i64 x.pos, .slice (some ⟨x.q, 0, none⟩) x.b.length x.cap] 71 (0, 0)) = w5
            have hD5 := As.mk (HD.out.keep (W' := w5) (fun k _ hl => by rw [← hW5]; exact Below.heap_alloc _ _ _ hl))
            have hN5 : As (w5.heap[wc.heap.size]? = some (.cells #[.int .i64 x.pos, .slice (some ⟨x.q, 0, none⟩) x.b.length x.cap] 71 (0, 0))) := ⟨by rw [← hW5]; exact blk_new wc _⟩
            have hF5 : As (Frame own W w5) := ⟨by rw [← hW5]; exact HF.out.alloc _⟩
            have hs5 : As (w5.heap.size = wc.heap.size + 1) := ⟨by rw [← hW5]; simp⟩
            have hDX5 := As.mk (hDX.out.keep (W' := w5) (by
              obtain ⟨cur, hc, _⟩ := own_block hDX.out.row
              rw [← hW5]; exact Below.heap_alloc _ _ _ (blk_lt hc)))
            clear hW5 d0 d1 d2 d3 d4 d5 HD HF hr hDX
            obtain ⟨d0, d1, d2, d3, d4, d5⟩ := hD5.out.cells
            generalize hbw : wc.heap.size = bw at *
            have HBW := As.mk hbw
            clear hbw
            have e0 : w5.cell? ⟨bw, 0, none⟩ = some (.int .i64 x.pos) := (blk_cell hN5.out 0).trans rfl
            have e1 : w5.cell? ⟨bw, 1, none⟩ = some (.slice (some ⟨x.q, 0, none⟩) x.b.length x.cap) := (blk_cell hN5.out 1).trans rfl
            refine wp_region_plan_held 16 (fun w' => w'.cell? ⟨b, 1, none⟩ = some vs ∧ w'.cell? ⟨bw, 0, none⟩ = some (.int .i64 x.pos) ∧ w'.cell? ⟨bw, 1, none⟩ = some (.slice (some ⟨x.q, 0, none⟩) x.b.length x.cap)) [(1, 0), (1, 1), (1, 2), (1, 3), (0, 4), (1, 5), (0, 6), (1, 7), (0, 8), (1, 9), (1, 10), (1, 11), (2, 12), (2, 13), (1, 14), (1, 15), (2, 16)] (by kernel_rfl) (by kernel_rfl) (by kernel_rfl) (by kernel_rfl) (fun _ _ _ _ _ h => h) ⟨d1, e0, e1⟩ ?_
            simp only [tagged, List.filterMap_cons, List.filterMap_nil, List.getElem?_toArray, List.getElem?_cons_succ, List.getElem?_cons_zero, Option.map_some]
            iterate 4 (refine wpHeld_sure (fun KK hKK => ?_); go_simp; refine hKK _ ?_; clear hKK KK)
            refine wpHeld_take (fun KK hKK => ?_)
            rw [if_pos (by rfl)]
            apply Exists.intro
            refine ⟨fun w' hw' => ?_, hKK _ ?_⟩
            · obtain ⟨hw1, hw2, hw3⟩ := hw'
              go_simp
              rfl
            clear hKK KK
            iterate 1 (refine wpHeld_sure (fun KK hKK => ?_); go_simp; refine hKK _ ?_; clear hKK KK)
            refine wpHeld_take (fun KK hKK => ?_)
            rw [if_pos (by rfl)]
            apply Exists.intro
            refine ⟨fun w' hw' => ?_, hKK _ ?_⟩
            · obtain ⟨hw1, hw2, hw3⟩ := hw'
              go_simp
              rfl
            clear hKK KK
            iterate 1 (refine wpHeld_sure (fun KK hKK => ?_); go_simp; refine hKK _ ?_; clear hKK KK)
            refine wpHeld_take (fun KK hKK => ?_)
            rw [if_pos (by rfl)]
            apply Exists.intro
            refine ⟨fun w' hw' => ?_, hKK _ ?_⟩
            · obtain ⟨hw1, hw2, hw3⟩ := hw'
              go_simp
              rfl
            clear hKK KK
            iterate 3 (refine wpHeld_sure (fun KK hKK => ?_); go_simp; refine hKK _ ?_; clear hKK KK)
            refine wpHeld_next (fun KK hKK => ?_)
            go_simp
            have hrv : As (rv (x.cut c) = [.int .i64 x.pos, .slice (some ⟨x.q, 0, none⟩) c x.cap]) := ⟨by
              have : (x.b.take c).length = c := by have := HX64.out; rw [List.length_take]; omega
              show [_, Value.slice _ (x.b.take c).length _] = _
              rw [this]
              rfl⟩
            generalize hW6 : (w5.alloc (.cells #[.int .i64 x.pos, .slice (some ⟨x.q, 0, none⟩) c x.cap] 71 (0, 0))).drew = w6
            have hD6 := As.mk (hD5.out.keep (W' := w6) (fun k _ hl => by rw [← hW6]; exact Below.heap_alloc _ _ _ hl))
            have hN6 : As (w6.heap[w5.heap.size]? = some (.cells #[.int .i64 x.pos, .slice (some ⟨x.q, 0, none⟩) c x.cap] 71 (0, 0))) := ⟨by rw [← hW6]; exact blk_new w5 _⟩
            have hN5' : As (w6.heap[bw]? = some (.cells #[.int .i64 x.pos, .slice (some ⟨x.q, 0, none⟩) x.b.length x.cap] 71 (0, 0))) := ⟨by rw [← hW6]; exact (Below.heap_alloc _ _ _ (blk_lt hN5.out)).trans hN5.out⟩
            have hF6 : As (Frame own W w6) := ⟨by rw [← hW6]; exact (hF5.out.alloc _).drew⟩
            have hs6 : w6.heap.size = w5.heap.size + 1 := by rw [← hW6]; simp
            have hDX6 := As.mk ((hDX5.out.keep (W' := w6) (by
              obtain ⟨cur, hc, _⟩ := own_block hDX5.out.row
              rw [← hW6]; exact Below.heap_alloc _ _ _ (blk_lt hc))).cut c (by have := HX64.out; omega))
            have hvs := As.mk (own_lt hD5.out.sure)
            clear hW6 d0 d1 d2 d3 d4 d5 e0 e1 hD5 hN5 hF5 hDX5
            obtain ⟨d0, d1, d2, d3, d4, d5⟩ := hD6.out.cells
            have e0 : w6.cell? ⟨bw, 0, none⟩ = some (.int .i64 x.pos) := (blk_cell hN5'.out 0).trans rfl
            have e1 : w6.cell? ⟨bw, 1, none⟩ = some (.slice (some ⟨x.q, 0, none⟩) x.b.length x.cap) := (blk_cell hN5'.out 1).trans rfl
            refine hKK _ _ (fun _ => ⟨d1, e0, e1⟩) ?_
            clear hKK KK
            have hsl : (r.sure ++ r.wait.take K).length = r.sure.length + K := by rw [List.length_append, List.length_take]; omega
            refine wpHeld_next (fun KK hKK => ?_)
            refine step_append_lies w6 (by rfl) _ _ _ (by rfl) 0 71 i0 _ 2 32 Try.underlying51 hi0 hz0 hz1 hz2 (by rfl) (by omega) vs (r.sure ++ r.wait.take K).length (flatR (r.sure ++ r.wait.take K)) (by rfl) hD6.out.sure
              ⟨w5.heap.size, 0, none⟩ 1 1 (rv (x.cut c)) (by rfl) (by rfl) (fun j u hu => World.news_of_block hN6.out j u (by rw [hrv.out] at hu; exact hu)) (rv_one _) (by omega) (by have := hlen2.out; unfold maxLen; omega) (by have := hlen2.out; omega) (by omega) (w5.heap.size + 1) hs6 ?_
            intro gg gcap w7 hown7 hgrow7 hat7 hlt7
            have hgne : (Value.slice (some ⟨gw, 0, none⟩) r.wait.length kc).ownBlock ≠ some gg := fun e => by
              obtain rfl : gw = gg := ob_eq e
              rcases hat7 with h | h
              · exact hD6.out.ne _ h rfl
              · have := hWs.out; have := hs5.out; omega
            have hG := hD6.out.grow hgrow7 hown7 (by rcases hat7 with h | h; exact .inl h; exact .inr (.inr (by have := hWs.out; have := hs5.out; omega))) hgne hDX6.out
            have hG2 := hG.2
            rw [hsl] at hG2
            have hBR7 := As.mk hG.1
            have hG7 := As.mk hG2
            clear hG2
            have hF7 : As (Frame own W w7) := ⟨hF6.out.grown hgrow7 (fun k hk => hD6.out.o1 k hk)⟩
            have hB7 : As (w7.heap[bw]? = some (.cells #[.int .i64 x.pos, .slice (some ⟨x.q, 0, none⟩) x.b.length x.cap] 71 (0, 0))) := ⟨(hgrow7.block bw (blk_lt hN5'.out) (fun e => by have := hvsb.out bw e.symm; omega)).trans hN5'.out⟩
            clear hG hown7 hgrow7 hat7 hlt7 hN6 hF6 hDX6 hN5' d0 d1 d2 d3 d4 d5 e0 e1
            have d1 := (blk_cell hBR7.out 1).trans rfl
            have f1 := blk_frozen hBR7.out 1
            have e0 : w7.cell? ⟨bw, 0, none⟩ = some (.int .i64 x.pos) := (blk_cell hB7.out 0).trans rfl
            have e1 : w7.cell? ⟨bw, 1, none⟩ = some (.slice (some ⟨x.q, 0, none⟩) x.b.length x.cap) := (blk_cell hB7.out 1).trans rfl
            refine hKK _ _ (fun _ => ⟨d1, e0, e1⟩) ?_
            clear hKK KK
            iterate 2 (refine wpHeld_sure (fun KK hKK => ?_); go_simp; refine hKK _ ?_; clear hKK KK)
            refine wpHeld_next (fun KK hKK => ?_)
            go_simp
            refine hKK _ _ (fun h => absurd rfl h) ?_
            clear hKK KK
            refine wpHeld_nil ?_
            clear d1 f1 e0 e1 hB7 hBR7
            generalize hv9 : Value.slice (some ⟨gg, 0, none⟩) (r.sure.length + K + 1) gcap = v9 at *
            have hF8 : As (Frame own W (w7.setCell ⟨b, 1, none⟩ v9)) := ⟨hF7.out.setCell (p := ⟨b, 1, none⟩) (.inl (hO0.out)) _⟩
            generalize w7.setCell ⟨b, 1, none⟩ v9 = w8 at *
            clear hF7 hD6
            obtain ⟨d0, d1, d2, d3, d4, d5⟩ := hG7.out.cells
            have f2 := blk_frozen hG7.out.blk 2
            have f4 := blk_frozen hG7.out.blk 4
            have f5 := blk_frozen hG7.out.blk 5
            go_wp2_with fail
            go_end0
            rw [HR.out]
            have q1 := hG7.out.done
            exact ⟨rfl, ⟨⟨OK.out.n1, OK.out.n2, by simp, by simp, fun y hy => by cases hy⟩, v9, .slice none 0 0, q1⟩, ((hF8.out.setCell (p := ⟨b, 2, none⟩) (.inl hO0.out) _).setCell (p := ⟨b, 4, none⟩) (.inl hO0.out) _).setCell (p := ⟨b, 5, none⟩) (.inl hO0.out) _⟩
          · have HR : As (rcrashF r keep cut = { r with sure := r.sure ++ r.wait.take K, wait := [], left := -1, dim := false }) := ⟨by
              unfold rcrashF
              rw [HKD.out, List.getElem?_eq_none (by omega)]
              simp⟩
            obtain ⟨d0, d1, d2, d3, d4, d5⟩ := HD.out.cells
            have f2 := blk_frozen HD.out.blk 2
            have f4 := blk_frozen HD.out.blk 4
            have f5 := blk_frozen HD.out.blk 5
            go_wp2_with fail
            go_end0
            rw [HR.out]
            have q1 := HD.out.done
            exact ⟨rfl, ⟨⟨OK.out.n1, OK.out.n2, by simp, by simp, fun y hy => by cases hy⟩, vs, .slice none 0 0, q1⟩, ((HF.out.setCell (p := ⟨b, 2, none⟩) (.inl hO0.out) _).setCell (p := ⟨b, 4, none⟩) (.inl hO0.out) _).setCell (p := ⟨b, 5, none⟩) (.inl hO0.out) _⟩
end
end Go.Proofs.Ytfhnhkjbfaieiaa.Bl
