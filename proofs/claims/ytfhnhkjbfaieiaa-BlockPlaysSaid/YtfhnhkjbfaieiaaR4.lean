/- A block of the document's disk is read (Read). Condition: the receiver is such a disk. -/
import Derived.Test.YtfhnhkjbfaieiaaR3
namespace Go.Proofs.Ytfhnhkjbfaieiaa.Bl
open Go.RowKit
set_option linter.unusedVariables false
set_option linter.unusedSimpArgs false
def rvalF (l : List RW) (k : Nat) (y : List Int) : List Int := l.foldl (fun acc x => if x.pos = k then over acc x.b else acc) y
theorem rvalF_app (l m : List RW) (k : Nat) (y : List Int) : rvalF (l ++ m) k y = rvalF m k (rvalF l k y) := List.foldl_append ..
theorem rvalF_one (x : RW) (k : Nat) (y : List Int) : rvalF [x] k y = if x.pos = k then over y x.b else y := rfl
theorem rvalF_len (k : Nat) : ∀ (l : List RW) (y : List Int), (∀ x ∈ l, x.b.length ≤ 64) → y.length = 64 → (rvalF l k y).length = 64
  | [], y, _, hy => hy
  | x :: l, y, h, hy => by
    show (rvalF l k (if x.pos = k then over y x.b else y)).length = 64
    refine rvalF_len k l _ (fun z hz => h z (List.mem_cons_of_mem _ hz)) ?_
    have := h x List.mem_cons_self
    split
    · rw [over_len _ _ (by omega), hy]
    · exact hy
theorem rvalF_ok (k : Nat) : ∀ (l : List RW) (y : List Int), (∀ x ∈ l, ByteOk x.b) → ByteOk y → ByteOk (rvalF l k y)
  | [], y, _, hy => hy
  | x :: l, y, h, hy => by
    show ByteOk (rvalF l k (if x.pos = k then over y x.b else y))
    refine rvalF_ok k l _ (fun z hz => h z (List.mem_cons_of_mem _ hz)) ?_
    split
    · exact over_ok hy (h x List.mem_cons_self)
    · exact hy
theorem putAt_over (y x : List Int) (h : x.length ≤ y.length) : putAt (bv y) 0 (bv x) = bv (over y x) := by
  apply List.ext_getElem?
  intro j
  rw [putAt_get, bv_len, bv_len, bv_get, bv_get, bv_get, over, List.getElem?_append]
  by_cases hj : j < x.length
  · rw [if_pos (by omega), if_pos hj]
    rfl
  · rw [if_neg (by omega), if_neg hj, List.getElem?_drop]
    congr 2
    omega
theorem wpList_copy_cells {P : Program} {ops : Array Oper} {rest : List Oper} {o : Oper} {a : Act} {w : World} {Q : Exit → Act → World → Prop} (hgd : o.guard = none) (d s : Operand) (dT sT : TypeId)
    (ho : o.op = .call { callee := .builtin .copy, args := #[d, s], argTypes := #[dT, sT] }) (elem : TypeId) (hu : P.underlying dT = some (.slice elem)) (hsz : (P.info? elem).map (·.size) = some 1)
    (b off dLen dCap : Nat) (ad : Addr) (sLen sCap : Nat) (hd : a.eval d = .slice (some ⟨b, off, none⟩) dLen dCap) (hs : a.eval s = .slice (some ad) sLen sCap) (cs : List Value) (hn : cs.length = Nat.min sLen dLen)
    (hsrc : ∀ j v, cs[j]? = some v → w.cell? (ad.add j) = some v) (ht : w.there b off cs.length) (h1 : ∀ v ∈ cs, v.oneCell' = true) (h : wpList P ops Q rest (a.put o.dst (goInt cs.length)) (w.setCells b off cs)) :
    wpList P ops Q (o :: rest) a w :=
  wpList_plain hgd fun _ hK => wp_copy_cells d s dT sT ho elem hu hsz b off dLen dCap ad sLen sCap hd hs cs hn hsrc ht h1 (hK _ _ h)
theorem bytes_of_five {W : World} {g : Nat} {y : List Int} (h : W.heap[g]? = some (.cells (bv y).toArray 5 (0, 0))) (hy : ByteOk y) : Bytes W (some ⟨g, 0, none⟩) y :=
  ⟨hy, fun _ => ⟨g, 0, rfl, blk_lt h, fun j v hv => by rw [blk_cell h, List.getElem?_toArray, Nat.zero_add]; exact hv⟩⟩
theorem Data.src {W : World} {own : Nat → Prop} {n : Nat} {x : RW} (h : Data W own n x) : ∀ j v, (bv x.b)[j]? = some v → W.cell? ((⟨x.q, 0, none⟩ : Addr).add j) = some v := fun j v hv => by
  have hj : j < x.b.length := by have := (List.getElem?_eq_some_iff.1 hv).1; rwa [bv_len] at this
  rw [add0, h.row.cellAt j (by omega)]
  exact hv
theorem put_over {w : World} {g : Nat} {y x : List Int} (h : w.heap[g]? = some (.cells (bv y).toArray 5 (0, 0))) (hx : x.length ≤ y.length) : (w.setCells g 0 (bv x)).heap[g]? = some (.cells (bv (over y x)).toArray 5 (0, 0)) := by
  rw [setCells_same (bv x) g 0 _ _ h, putAt_over _ _ hx]
theorem made33 : madeCells (Value.int .u8 0).cells (64 * 1) = (bv zero64).toArray := by kernel_rfl
theorem mk33 (w : World) : (Instr.makeSlice 33 (.int .i64 64) (.int .i64 64)).run Try.prog w = .ok (.slice (some ⟨w.heap.size, 0, none⟩) 64 64) (w.alloc (.cells (bv zero64).toArray 5 (0, 0))) := by
  obtain ⟨i, hi, hz, hs, hb⟩ := info_parts info5
  have hr := run_make (P := Try.prog) w 33 5 i _ Try.underlying33 hi hz .i64 .i64 64 64 (by omega) (Int.le_refl _) (by rw [hb]; omega) (by omega)
  rw [hr, hs]
  show Result.ok _ (w.alloc (.cells (madeCells (Value.int .u8 0).cells (64 * 1)) 5 (0, 0))) = _
  rw [made33]
  rfl
section
variable {W : World} {own : Nat → Prop} {b n : Nat} {r : RSt}
theorem rread_dark (h : RDisk W own b n r) (k : Int) (hd : r.dim = true) :
    Calls Try.prog 24 #[.pointer (some ⟨b, 0, none⟩), .int .i64 k] W fun e W' => e = .returned (.tuple #[.slice none 0 0, .int .i64 6]) ∧ W = W' := by
  obtain ⟨hok, vs, vw, h⟩ := h
  obtain ⟨_, _, _, _, _, c⟩ := h.cells
  rw [hd] at c
  clear h hok
  go_enter Try.func24, Try.ntmps24
  go_wp2_with fail
  go_ret2
  exact ⟨rfl, rfl⟩
theorem rread_out (h : RDisk W own b n r) (k : Int) (hd : r.dim = false) (hk : k < 0 ∨ (n : Int) ≤ k) :
    Calls Try.prog 24 #[.pointer (some ⟨b, 0, none⟩), .int .i64 k] W fun e W' => e = .returned (.tuple #[.slice none 0 0, .int .i64 150]) ∧ W = W' := by
  obtain ⟨hok, vs, vw, h⟩ := h
  obtain ⟨c0, _, _, _, _, c⟩ := h.cells
  rw [hd] at c
  clear h hok
  by_cases h1 : k < 0
  · go_enter Try.func24, Try.ntmps24
    go_wp2_with fail
    go_ret2
    exact ⟨rfl, rfl⟩
  · have h2 : (n : Int) ≤ k := by omega
    clear hk
    go_enter Try.func24, Try.ntmps24
    go_wp2_with fail
    go_ret2
    exact ⟨rfl, rfl⟩
set_option maxHeartbeats 4000000 in
set_option maxRecDepth 100000 in
theorem rread_at (h : RDisk W own b n r) (k : Nat) (hd : r.dim = false) (hk : k < n) (hw : r.sure.length + r.wait.length < 1000000) :
    Calls Try.prog 24 #[.pointer (some ⟨b, 0, none⟩), .int .i64 (k : Int)] W fun e W' => ∃ g, e = .returned (.tuple #[.slice (some ⟨g, 0, none⟩) 64 64, .int .i64 0]) ∧ W'.heap[g]? = some (.cells (bv (rvalF (r.sure ++ r.wait) k zero64)).toArray 5 (0, 0)) ∧ W.heap.size ≤ g ∧ Below W.heap.size W W' := by
  obtain ⟨hok, vs, vw, h⟩ := h
  obtain ⟨c0, c1, c2, _, _, c⟩ := h.cells
  rw [hd] at c
  have hk' : (k : Int) < n := by omega
  have hn : (n : Int) ≤ 1024 := by have := hok.n2; omega
  have h0 : (0 : Int) ≤ (k : Int) := by omega
  have hv : ∃ A c, vs = .slice A r.sure.length c := by
    rcases h.sure.2 with ⟨hv, h0⟩ | ⟨g, cap, _, hv, _⟩
    · rw [hv, h0]; exact ⟨_, _, rfl⟩
    · exact ⟨_, _, hv⟩
  obtain ⟨A1, k1, rfl⟩ := hv
  have hv : ∃ A c, vw = .slice A r.wait.length c := by
    rcases h.wait.2 with ⟨hv, h0⟩ | ⟨g, cap, _, hv, _⟩
    · rw [hv, h0]; exact ⟨_, _, rfl⟩
    · exact ⟨_, _, hv⟩
  obtain ⟨A2, k2, rfl⟩ := hv
  have H := As.mk h
  clear h hok
  have hmk := mk33 W
  have hq1 : decide ((k : Int) < 0) = false := decide_eq_false (by omega)
  have hq2 : decide (n ≤ k) = false := decide_eq_false (by omega)
  have hq3 : decide ((n : Int) ≤ (k : Int)) = false := decide_eq_false (by omega)
  go_enter Try.func24, Try.ntmps24
  go_upto_block 0 with fail
  have hB0 : As ((W.alloc (.cells (bv zero64).toArray 5 (0, 0))).heap[W.heap.size]? = some (.cells (bv zero64).toArray 5 (0, 0))) := ⟨blk_new W _⟩
  have hL0 : As (Below W.heap.size W (W.alloc (.cells (bv zero64).toArray 5 (0, 0)))) := ⟨(Below.refl _ _).alloc (Nat.le_refl _) _⟩
  clear hmk c c0 c1 c2 hd hk hk' hn
  generalize W.alloc (.cells (bv zero64).toArray 5 (0, 0)) = w1 at *
  generalize hb : W.heap.size = B at *
  have HBW := As.mk hb
  clear hb
  go_cut [7] from 24 to 52 (fun v7 wc => As (wc.heap[B]? = some (.cells (bv (rvalF r.sure k zero64)).toArray 5 (0, 0))) ∧ As (Below B W wc))
  case first =>
    have HY := As.mk zero64_len
    generalize zero64 = Y at *
    go_wp2_with fail
    go_loopg [7] r.sure.length (fun gk v7 w' => ∃ i : Nat, v7 = .int .i64 i ∧ As (gk = r.sure.length - i) ∧ As (i ≤ r.sure.length) ∧ As (w'.heap[B]? = some (.cells (bv (rvalF (r.sure.take i) k Y)).toArray 5 (0, 0))) ∧ As (Below B W w'))
    case atStart => exact ⟨0, rfl, ⟨rfl⟩, ⟨Nat.zero_le _⟩, hB0, hL0⟩
    case round =>
      obtain ⟨i, rfl, HK, HI, HO, HB⟩ := hrel
      have HD := As.mk (H.out.keep (W' := wr) (fun k _ hl => HB.out.block k (by rw [← HBW.out]; exact hl)))
      obtain ⟨d0, d1, d2, d3, d4, d5⟩ := HD.out.cells
      by_cases hi : i < r.sure.length
      · obtain ⟨gs, cs, hA, _, _⟩ := HD.out.sure.form (by omega)
        have hA' : A1 = some ⟨gs, 0, none⟩ := by injection hA
        subst hA'
        clear hA
        have hx : r.sure[i]? = some r.sure[i] := List.getElem?_eq_getElem hi
        have hDX := As.mk (HD.out.d1 _ (List.getElem_mem hi))
        have hc : ∀ j u, (rv r.sure[i])[j]? = some u → wr.cell? ⟨gs, i * 2 + j, none⟩ = some u := fun j u hu => by
          have hj : j < 2 := (List.getElem?_eq_some_iff.1 hu).1
          rw [HD.out.sure.cellAt (i * 2 + j) (by omega), flatR_at _ i j hj, hx]
          exact hu
        have e0 := hc 0 _ rfl
        have e1 := hc 1 _ rfl
        rw [Nat.add_zero] at e0
        have htk : As (r.sure.take (i + 1) = r.sure.take i ++ [r.sure[i]]) := ⟨by rw [List.take_add_one, hx]; rfl⟩
        clear hx hc
        generalize r.sure[i] = x at *
        have hx64 := hDX.out.len
        have hln : (rvalF (r.sure.take i) k Y).length = 64 := rvalF_len k _ _ (fun z hz => (H.out.d1 z (List.mem_of_mem_take hz)).len) HY.out
        have HLN := As.mk hln
        clear hln
        by_cases hp : x.pos = k
        · have hp' : ((x.pos : Int) == (k : Int)) = true := by simpa using (show (x.pos : Int) = k by omega)
          have HP := As.mk hp
          clear hp
          have hs := As.mk hDX.out.src
          go_wp2_with ((refine wpList_copy_cells rfl (.tmp 43) (.tmp 51) 33 33 rfl 5 Try.underlying33 size5 B 0 64 64 ⟨x.q, 0, none⟩ x.b.length x.cap rfl rfl (bv x.b) (by rw [bv_len]; exact (Nat.min_eq_left hx64).symm) hs.out (there_block HO.out _ _ (by rw [List.size_toArray, bv_len, bv_len]; have := HLN.out; omega)) (bv_one _) ?_))
          go_roundg (r.sure.length - (i + 1))
          case measure => have := HK.out; omega
          case rel => exact ⟨i + 1, by go_num, ⟨rfl⟩, ⟨hi⟩, ⟨by rw [htk.out, rvalF_app, rvalF_one, if_pos HP.out]; exact put_over HO.out (by have := HLN.out; omega)⟩, ⟨HB.out.trans (setCells_below _ (Nat.le_refl _))⟩⟩
        · have hp' : ((x.pos : Int) == (k : Int)) = false := by simpa using (show ¬ (x.pos : Int) = k by omega)
          have HP := As.mk hp
          clear hp
          go_wp2_with fail
          go_roundg (r.sure.length - (i + 1))
          case measure => have := HK.out; omega
          case rel => exact ⟨i + 1, by go_num, ⟨rfl⟩, ⟨hi⟩, ⟨by rw [htk.out, rvalF_app, rvalF_one, if_neg HP.out]; exact HO.out⟩, HB⟩
      · obtain rfl : i = r.sure.length := by have := HI.out; omega
        go_wp2_with fail
        go_meet
        case rel =>
          have := HO.out
          rw [List.take_of_length_le (Nat.le_refl _)] at this
          exact ⟨⟨this⟩, HB⟩
  case rest =>
    obtain ⟨HB1, HL1⟩ := hcut
    have HY := As.mk (rvalF_len k r.sure zero64 (fun z hz => (H.out.d1 z hz).len) zero64_len)
    generalize hye : rvalF r.sure k zero64 = Y at *
    have HYE := As.mk hye
    clear hye hB0 hL0
    go_wp2_with fail
    go_loopg [8] r.wait.length (fun gk v8 w' => ∃ i : Nat, v8 = .int .i64 i ∧ As (gk = r.wait.length - i) ∧ As (i ≤ r.wait.length) ∧ As (w'.heap[B]? = some (.cells (bv (rvalF (r.wait.take i) k Y)).toArray 5 (0, 0))) ∧ As (Below B W w'))
    case atStart => exact ⟨0, rfl, ⟨rfl⟩, ⟨Nat.zero_le _⟩, HB1, HL1⟩
    case round =>
      obtain ⟨i, rfl, HK, HI, HO, HB⟩ := hrel
      have HD := As.mk (H.out.keep (W' := wr) (fun k _ hl => HB.out.block k (by rw [← HBW.out]; exact hl)))
      obtain ⟨d0, d1, d2, d3, d4, d5⟩ := HD.out.cells
      by_cases hi : i < r.wait.length
      · obtain ⟨gs, cs, hA, _, _⟩ := HD.out.wait.form (by omega)
        have hA' : A2 = some ⟨gs, 0, none⟩ := by injection hA
        subst hA'
        clear hA
        have hx : r.wait[i]? = some r.wait[i] := List.getElem?_eq_getElem hi
        have hDX := As.mk (HD.out.d2 _ (List.getElem_mem hi))
        have hc : ∀ j u, (rv r.wait[i])[j]? = some u → wr.cell? ⟨gs, i * 2 + j, none⟩ = some u := fun j u hu => by
          have hj : j < 2 := (List.getElem?_eq_some_iff.1 hu).1
          rw [HD.out.wait.cellAt (i * 2 + j) (by omega), flatR_at _ i j hj, hx]
          exact hu
        have e0 := hc 0 _ rfl
        have e1 := hc 1 _ rfl
        rw [Nat.add_zero] at e0
        have htk : As (r.wait.take (i + 1) = r.wait.take i ++ [r.wait[i]]) := ⟨by rw [List.take_add_one, hx]; rfl⟩
        clear hx hc
        generalize r.wait[i] = x at *
        have hx64 := hDX.out.len
        have hln : (rvalF (r.wait.take i) k Y).length = 64 := rvalF_len k _ _ (fun z hz => (H.out.d2 z (List.mem_of_mem_take hz)).len) HY.out
        have HLN := As.mk hln
        clear hln
        by_cases hp : x.pos = k
        · have hp' : ((x.pos : Int) == (k : Int)) = true := by simpa using (show (x.pos : Int) = k by omega)
          have HP := As.mk hp
          clear hp
          have hs := As.mk hDX.out.src
          go_wp2_with ((refine wpList_copy_cells rfl (.tmp 72) (.tmp 80) 33 33 rfl 5 Try.underlying33 size5 B 0 64 64 ⟨x.q, 0, none⟩ x.b.length x.cap rfl rfl (bv x.b) (by rw [bv_len]; exact (Nat.min_eq_left hx64).symm) hs.out (there_block HO.out _ _ (by rw [List.size_toArray, bv_len, bv_len]; have := HLN.out; omega)) (bv_one _) ?_))
          go_roundg (r.wait.length - (i + 1))
          case measure => have := HK.out; omega
          case rel => exact ⟨i + 1, by go_num, ⟨rfl⟩, ⟨hi⟩, ⟨by rw [htk.out, rvalF_app, rvalF_one, if_pos HP.out]; exact put_over HO.out (by have := HLN.out; omega)⟩, ⟨HB.out.trans (setCells_below _ (Nat.le_refl _))⟩⟩
        · have hp' : ((x.pos : Int) == (k : Int)) = false := by simpa using (show ¬ (x.pos : Int) = k by omega)
          have HP := As.mk hp
          clear hp
          go_wp2_with fail
          go_roundg (r.wait.length - (i + 1))
          case measure => have := HK.out; omega
          case rel => exact ⟨i + 1, by go_num, ⟨rfl⟩, ⟨hi⟩, ⟨by rw [htk.out, rvalF_app, rvalF_one, if_neg HP.out]; exact HO.out⟩, HB⟩
      · obtain rfl : i = r.wait.length := by have := HI.out; omega
        go_wp2_with fail
        go_ret2
        have := HO.out
        rw [List.take_of_length_le (Nat.le_refl _)] at this
        exact ⟨B, rfl, by rw [rvalF_app, HYE.out]; exact this, by rw [HBW.out]; exact Nat.le_refl _, by rw [HBW.out]; exact HB.out⟩
end
end Go.Proofs.Ytfhnhkjbfaieiaa.Bl
