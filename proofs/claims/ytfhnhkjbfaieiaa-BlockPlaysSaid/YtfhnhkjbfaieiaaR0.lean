/- The document's disk (drayageref15) in memory; its act, SetLimit, Dark, New. Condition: the receiver is such a disk. -/
import Derived.Test.YtfhnhkjbfaieiaaB9
import Derived.Test.YtfhnhkjbfaieiaaL0
namespace Go.Proofs.Ytfhnhkjbfaieiaa.Bl
open Go.RowKit
set_option linter.unusedVariables false
set_option linter.unusedSimpArgs false
/-- A write of the document's disk: its block, and the row where its bytes lie. -/
structure RW where
  pos : Nat
  q : Nat
  cap : Nat
  b : List Int
def rv (x : RW) : List Value := [.int .i64 x.pos, .slice (some ⟨x.q, 0, none⟩) x.b.length x.cap]
theorem rv_one (x : RW) : ∀ v ∈ rv x, v.oneCell' = true := fun v hv => by
  simp only [rv, List.mem_cons, List.not_mem_nil, or_false] at hv
  rcases hv with rfl | rfl <;> rfl
def flatR (l : List RW) : List Value := (l.map rv).flatten
theorem flatR_app (l r : List RW) : flatR (l ++ r) = flatR l ++ flatR r := by simp [flatR]
theorem flatR_one (x : RW) : flatR [x] = rv x := by simp [flatR]
theorem flatR_len : ∀ l : List RW, (flatR l).length = l.length * 2
  | [] => rfl
  | x :: l => by
    have := flatR_len l
    show (rv x ++ flatR l).length = _
    rw [List.length_append, this, List.length_cons]
    show 2 + _ = _
    omega
theorem flatR_at : ∀ (l : List RW) (i j : Nat), j < 2 → (flatR l)[i * 2 + j]? = (l[i]?).bind (fun x => (rv x)[j]?) := fun l i j hj => by
  unfold flatR
  rw [chunk_get (k := 2) (by omega) _ (fun x hx => by obtain ⟨y, _, rfl⟩ := List.mem_map.1 hx; rfl), List.getElem?_map]
  have e1 : (i * 2 + j) / 2 = i := by omega
  have e2 : (i * 2 + j) % 2 = j := by omega
  rw [e1, e2]
  cases l[i]? <;> rfl
theorem flatR_ones (l : List RW) : ∀ v ∈ flatR l, v.oneCell' = true := fun v hv => by
  obtain ⟨x, hx, hv⟩ := List.mem_flatten.1 hv
  obtain ⟨y, hy, rfl⟩ := List.mem_map.1 hx
  exact rv_one y v hv
structure RSt where
  sure : List RW
  wait : List RW
  limit : Int
  left : Int
  dim : Bool
/-- The bytes of a write lie in a row of the disk's own. -/
structure Data (W : World) (own : Nat → Prop) (n : Nat) (x : RW) : Prop where
  own : own x.q
  row : W.ownsRow 0 5 1 (.slice (some ⟨x.q, 0, none⟩) x.b.length x.cap) x.b.length (bv x.b)
  pos : x.pos < n
  len : x.b.length ≤ 64
  ok : ByteOk x.b
theorem Data.keep {W W' : World} {own : Nat → Prop} {n : Nat} {x : RW} (h : Data W own n x) (hk : W'.heap[x.q]? = W.heap[x.q]?) : Data W' own n x :=
  ⟨h.own, own_keep h.row (fun g hg _ => by rw [← ob_eq hg]; exact hk), h.pos, h.len, h.ok⟩
theorem Data.mono {W : World} {own own' : Nat → Prop} {n : Nat} {x : RW} (h : Data W own n x) (hs : own x.q → x.q < W.heap.size → own' x.q) : Data W own' n x :=
  ⟨hs h.own (own_lt h.row _ rfl), h.row, h.pos, h.len, h.ok⟩
structure RAt (W : World) (own : Nat → Prop) (b n : Nat) (r : RSt) (vs vw : Value) : Prop where
  blk : W.heap[b]? = some (.cells #[.int .i64 n, vs, vw, .int .i64 r.limit, .int .i64 r.left, .bool r.dim] 53 (0, 0))
  sure : W.ownsRow 0 71 2 vs r.sure.length (flatR r.sure)
  wait : W.ownsRow 0 71 2 vw r.wait.length (flatR r.wait)
  ne : ∀ g, vs.ownBlock = some g → vw.ownBlock ≠ some g
  o0 : own b
  o1 : ∀ g, vs.ownBlock = some g → own g
  o2 : ∀ g, vw.ownBlock = some g → own g
  d1 : ∀ x ∈ r.sure, Data W own n x
  d2 : ∀ x ∈ r.wait, Data W own n x
structure RSt.Ok (r : RSt) (n : Nat) : Prop where
  n1 : 1 ≤ n
  n2 : n ≤ 1024
  l1 : -1 ≤ r.left
  l2 : r.left ≤ 9223372036854775807
  full : ∀ x ∈ r.wait, x.b.length = 64
def RDisk (W : World) (own : Nat → Prop) (b n : Nat) (r : RSt) : Prop := r.Ok n ∧ ∃ vs vw, RAt W own b n r vs vw
theorem RAt.keep {W W' : World} {own : Nat → Prop} {b n : Nat} {r : RSt} {vs vw : Value} (h : RAt W own b n r vs vw) (hk : ∀ k, own k → k < W.heap.size → W'.heap[k]? = W.heap[k]?) : RAt W' own b n r vs vw :=
  ⟨by rw [hk b h.o0 (blk_lt h.blk)]; exact h.blk, own_keep h.sure (fun g hg hl => hk g (h.o1 g hg) hl), own_keep h.wait (fun g hg hl => hk g (h.o2 g hg) hl), h.ne, h.o0, h.o1, h.o2,
    fun x hx => (h.d1 x hx).keep (hk _ (h.d1 x hx).own (own_lt (h.d1 x hx).row _ rfl)), fun x hx => (h.d2 x hx).keep (hk _ (h.d2 x hx).own (own_lt (h.d2 x hx).row _ rfl))⟩
theorem RAt.mono {W : World} {own own' : Nat → Prop} {b n : Nat} {r : RSt} {vs vw : Value} (h : RAt W own b n r vs vw) (hs : ∀ k, own k → k < W.heap.size → own' k) : RAt W own' b n r vs vw :=
  ⟨h.blk, h.sure, h.wait, h.ne, hs _ h.o0 (blk_lt h.blk), fun g hg => hs _ (h.o1 g hg) (own_lt h.sure g hg), fun g hg => hs _ (h.o2 g hg) (own_lt h.wait g hg), fun x hx => (h.d1 x hx).mono (hs _), fun x hx => (h.d2 x hx).mono (hs _)⟩
theorem RDisk.keep {W W' : World} {own : Nat → Prop} {b n : Nat} {r : RSt} (h : RDisk W own b n r) (hk : ∀ k, own k → k < W.heap.size → W'.heap[k]? = W.heap[k]?) : RDisk W' own b n r := by
  obtain ⟨h1, vs, vw, h2⟩ := h
  exact ⟨h1, vs, vw, h2.keep hk⟩
theorem RDisk.mono {W : World} {own own' : Nat → Prop} {b n : Nat} {r : RSt} (h : RDisk W own b n r) (hs : ∀ k, own k → k < W.heap.size → own' k) : RDisk W own' b n r := by
  obtain ⟨h1, vs, vw, h2⟩ := h
  exact ⟨h1, vs, vw, h2.mono hs⟩
theorem RDisk.below {W W' : World} {own : Nat → Prop} {b n B : Nat} {r : RSt} (h : RDisk W own b n r) (hb : Below B W W') (hB : W.heap.size ≤ B) : RDisk W' own b n r := h.keep (fun k _ hl => hb.block k (by omega))
theorem RDisk.frame {W W' : World} {own own' : Nat → Prop} {b n : Nat} {r : RSt} (h : RDisk W own b n r) (hf : Frame own' W W') (hd : ∀ k, own k → ¬ own' k) : RDisk W' own b n r := h.keep (fun k ho hl => hf.block k hl (hd k ho))
theorem RAt.cells {W : World} {own : Nat → Prop} {b n : Nat} {r : RSt} {vs vw : Value} (h : RAt W own b n r vs vw) :
    W.cell? ⟨b, 0, none⟩ = some (.int .i64 n) ∧ W.cell? ⟨b, 1, none⟩ = some vs ∧ W.cell? ⟨b, 2, none⟩ = some vw ∧ W.cell? ⟨b, 3, none⟩ = some (.int .i64 r.limit) ∧ W.cell? ⟨b, 4, none⟩ = some (.int .i64 r.left) ∧ W.cell? ⟨b, 5, none⟩ = some (.bool r.dim) :=
  ⟨(blk_cell h.blk 0).trans rfl, (blk_cell h.blk 1).trans rfl, (blk_cell h.blk 2).trans rfl, (blk_cell h.blk 3).trans rfl, (blk_cell h.blk 4).trans rfl, (blk_cell h.blk 5).trans rfl⟩
theorem Data.ne {W : World} {own : Nat → Prop} {n b t : Nat} {x : RW} {cs : Array Value} {fr : Nat × Nat} (h : Data W own n x) (hb : W.heap[b]? = some (.cells cs t fr)) (ht : t ≠ 5) : x.q ≠ b := own_ne h.row hb ht _ rfl
/-- A field of the disk's own is stored: the rest stands. -/
theorem RAt.field {W : World} {own : Nat → Prop} {b n : Nat} {r r' : RSt} {vs vw : Value} (h : RAt W own b n r vs vw) (j : Nat) (u : Value)
    (hs : #[.int .i64 n, vs, vw, .int .i64 r.limit, .int .i64 r.left, .bool r.dim].setIfInBounds j u = #[.int .i64 n, vs, vw, .int .i64 r'.limit, .int .i64 r'.left, .bool r'.dim])
    (e1 : r'.sure = r.sure) (e2 : r'.wait = r.wait) : RAt (W.setCell ⟨b, j, none⟩ u) own b n r' vs vw := by
  refine ⟨by rw [blk_put h.blk, hs], ?_, ?_, h.ne, h.o0, h.o1, h.o2, ?_, ?_⟩
  · rw [e1]; exact own_keep h.sure (fun g hg _ => Below.heap_setCell _ _ _ _ (own_ne h.sure h.blk (by decide) g hg))
  · rw [e2]; exact own_keep h.wait (fun g hg _ => Below.heap_setCell _ _ _ _ (own_ne h.wait h.blk (by decide) g hg))
  · rw [e1]; exact fun x hx => (h.d1 x hx).keep (Below.heap_setCell _ _ _ _ ((h.d1 x hx).ne h.blk (by decide)))
  · rw [e2]; exact fun x hx => (h.d2 x hx).keep (Below.heap_setCell _ _ _ _ ((h.d2 x hx).ne h.blk (by decide)))
def ractF (r : RSt) : Bool × RSt :=
  if r.dim = true then (false, r) else if r.left = 0 then (false, { r with dim := true }) else if r.left > 0 then (true, { r with left := r.left - 1 }) else (true, r)
theorem ract_ok {r : RSt} {n : Nat} (h : r.Ok n) : (ractF r).2.Ok n := by
  obtain ⟨h1, h2, h3, h4, h5⟩ := h
  unfold ractF
  split
  · exact ⟨h1, h2, h3, h4, h5⟩
  · split
    · exact ⟨h1, h2, h3, h4, h5⟩
    · split
      · refine ⟨h1, h2, ?_, ?_, h5⟩ <;> show _ ≤ _ <;> simp only <;> omega
      · exact ⟨h1, h2, h3, h4, h5⟩
theorem ract_same (r : RSt) : (ractF r).2.sure = r.sure ∧ (ractF r).2.wait = r.wait ∧ (ractF r).2.limit = r.limit := by
  unfold ractF
  split
  · exact ⟨rfl, rfl, rfl⟩
  · split
    · exact ⟨rfl, rfl, rfl⟩
    · split <;> exact ⟨rfl, rfl, rfl⟩
theorem ract_at {W : World} {own : Nat → Prop} {b n : Nat} {r : RSt} {vs vw : Value} (h : RAt W own b n r vs vw) (hok : r.Ok n) :
    Calls Try.prog 37 #[.pointer (some ⟨b, 0, none⟩)] W fun e W' => e = .returned (.bool (ractF r).1) ∧ RAt W' own b n (ractF r).2 vs vw ∧ Frame own W W' ∧ (∀ k, k ≠ b → W'.heap[k]? = W.heap[k]?) ∧ W'.heap.size = W.heap.size := by
  obtain ⟨c0, c1, c2, c3, c4, c5⟩ := h.cells
  have l1 := hok.l1
  have l2 := hok.l2
  have f4 := blk_frozen h.blk 4
  have f5 := blk_frozen h.blk 5
  have H := As.mk h
  have hF := As.mk (Frame.refl own W)
  clear h hok c0 c1 c2 c3
  cases hd : r.dim with
  | true =>
    have e1 : As (ractF r = (false, r)) := ⟨by unfold ractF; rw [if_pos hd]⟩
    have hd2 : As ((RAt (W.setCell ⟨b, 5, none⟩ (.bool true)) own b n r vs vw)) := ⟨H.out.field 5 (.bool true) (by simp [hd]) rfl rfl⟩
    rw [hd] at c5
    clear hd
    go_enter Try.func37, Try.ntmps37
    go_wp2_with fail
    go_ret
    rw [e1.out]
    exact ⟨rfl, hd2.out, hF.out.setCell (p := ⟨b, 5, none⟩) (.inl H.out.o0) _, fun k hk => Below.heap_setCell _ _ _ _ hk, by simp [World.setCell]⟩
  | false =>
    rw [hd] at c5
    have hd' := As.mk hd
    clear hd
    by_cases h0 : r.left = 0
    · have e1 : As (ractF r = (false, { r with dim := true })) := ⟨by unfold ractF; rw [if_neg (by rw [hd'.out]; decide), if_pos h0]⟩
      rw [h0] at c4
      clear h0 l1 l2
      go_enter Try.func37, Try.ntmps37
      go_wp2_with fail
      go_ret
      rw [e1.out]
      exact ⟨rfl, H.out.field 5 (.bool true) (by simp) rfl rfl, hF.out.setCell (p := ⟨b, 5, none⟩) (.inl H.out.o0) _, fun k hk => Below.heap_setCell _ _ _ _ hk, by simp [World.setCell]⟩
    · have h0' : (r.left == 0) = false := by simpa using h0
      by_cases h1 : r.left > 0
      · have e1 : As (ractF r = (true, { r with left := r.left - 1 })) := ⟨by unfold ractF; rw [if_neg (by rw [hd'.out]; decide), if_neg h0, if_pos h1]⟩
        generalize hl : r.left = l at *
        have HL := As.mk hl
        clear hl
        go_enter Try.func37, Try.ntmps37
        go_wp2_with fail
        go_ret
        rw [e1.out]
        exact ⟨rfl, H.out.field 4 (.int .i64 (l - 1)) (by simp [HL.out]) rfl rfl, hF.out.setCell (p := ⟨b, 4, none⟩) (.inl H.out.o0) _, fun k hk => Below.heap_setCell _ _ _ _ hk, by simp [World.setCell]⟩
      · have e1 : As (ractF r = (true, r)) := ⟨by unfold ractF; rw [if_neg (by rw [hd'.out]; decide), if_neg h0, if_neg h1]⟩
        generalize hl : r.left = l at *
        clear hl
        go_enter Try.func37, Try.ntmps37
        go_wp2_with fail
        go_ret
        rw [e1.out]
        exact ⟨rfl, H.out, hF.out, fun _ _ => rfl, rfl⟩
def rlimitF (r : RSt) (n : Nat) (k : Int) : RSt := { r with limit := if k < 0 then n else k }
theorem rlimit_a {W : World} {own : Nat → Prop} {b n : Nat} {r : RSt} (h : RDisk W own b n r) (k : Int) :
    Calls Try.prog 33 #[.pointer (some ⟨b, 0, none⟩), .int .i64 k] W fun e W' => e = .returned (.tuple #[]) ∧ RDisk W' own b n (rlimitF r n k) ∧ Frame own W W' := by
  obtain ⟨hok, vs, vw, h⟩ := h
  obtain ⟨c0, _, _, c, _, _⟩ := h.cells
  have f3 := blk_frozen h.blk 3
  have H := As.mk h
  have hF := As.mk (Frame.refl own W)
  have OK : As ((rlimitF r n k).Ok n) := ⟨⟨hok.n1, hok.n2, hok.l1, hok.l2, hok.full⟩⟩
  clear h hok
  by_cases hl : k < 0
  · go_enter Try.func33, Try.ntmps33
    go_wp2_with fail
    go_end0
    refine ⟨rfl, ⟨OK.out, vs, vw, ?_⟩, (hF.out.setCell (p := ⟨b, 3, none⟩) (.inl H.out.o0) _).setCell (p := ⟨b, 3, none⟩) (.inl H.out.o0) _⟩
    exact (H.out.field (r' := { r with limit := k }) 3 (.int .i64 k) (by simp) rfl rfl).field 3 (.int .i64 n) (by simp [rlimitF, hl]) rfl rfl
  · go_enter Try.func33, Try.ntmps33
    go_wp2_with fail
    go_end0
    exact ⟨rfl, ⟨OK.out, vs, vw, H.out.field 3 (.int .i64 k) (by simp [rlimitF]; omega) rfl rfl⟩, hF.out.setCell (p := ⟨b, 3, none⟩) (.inl H.out.o0) _⟩
def rdarkF (r : RSt) (k : Int) : RSt := { r with left := if k < -1 then -1 else k }
theorem rdark_a {W : World} {own : Nat → Prop} {b n : Nat} {r : RSt} (h : RDisk W own b n r) (k : Int) (hk : k ≤ 9223372036854775807) :
    Calls Try.prog 34 #[.pointer (some ⟨b, 0, none⟩), .int .i64 k] W fun e W' => e = .returned (.tuple #[]) ∧ RDisk W' own b n (rdarkF r k) ∧ Frame own W W' := by
  obtain ⟨hok, vs, vw, h⟩ := h
  obtain ⟨_, _, _, _, c, _⟩ := h.cells
  have f4 := blk_frozen h.blk 4
  have H := As.mk h
  have hF := As.mk (Frame.refl own W)
  have OK : As ((rdarkF r k).Ok n) := ⟨⟨hok.n1, hok.n2, by unfold rdarkF; simp only; split <;> omega, by unfold rdarkF; simp only; split <;> omega, hok.full⟩⟩
  clear h hok hk
  by_cases hl : k < 0
  · go_enter Try.func34, Try.ntmps34
    go_wp2_with fail
    go_end0
    refine ⟨rfl, ⟨OK.out, vs, vw, ?_⟩, (hF.out.setCell (p := ⟨b, 4, none⟩) (.inl H.out.o0) _).setCell (p := ⟨b, 4, none⟩) (.inl H.out.o0) _⟩
    exact (H.out.field (r' := { r with left := k }) 4 (.int .i64 k) (by simp) rfl rfl).field 4 (.int .i64 (-1)) (by simp [rdarkF]; omega) rfl rfl
  · go_enter Try.func34, Try.ntmps34
    go_wp2_with fail
    go_end0
    exact ⟨rfl, ⟨OK.out, vs, vw, H.out.field 4 (.int .i64 k) (by simp [rdarkF]; omega) rfl rfl⟩, hF.out.setCell (p := ⟨b, 4, none⟩) (.inl H.out.o0) _⟩
def rnew (n : Nat) : RSt := ⟨[], [], n, -1, false⟩
theorem rnew_no (k : Int) (h : k < 1 ∨ 1024 < k) (W : World) : Calls Try.prog 21 #[.int .i64 k] W fun e W' => e = .returned (.tuple #[.pointer none, .int .i64 2]) ∧ W = W' := by
  rcases h with h | h
  · go_enter Try.func21, Try.ntmps21
    go_wp2_with fail
    go_ret2
    exact ⟨rfl, rfl⟩
  · have h' : ¬ k < 1 := by omega
    go_enter Try.func21, Try.ntmps21
    go_wp2_with fail
    go_ret2
    exact ⟨rfl, rfl⟩
theorem rnew_yes (n : Nat) (h1 : 1 ≤ n) (h2 : n ≤ 1024) (W : World) : Calls Try.prog 21 #[.int .i64 (n : Int)] W fun e W' => ∃ b, e = .returned (.tuple #[.pointer (some ⟨b, 0, none⟩), .int .i64 0]) ∧ RDisk W' (fun k => W.heap.size ≤ k) b n (rnew n) ∧ Below W.heap.size W W' := by
  have i1 : ¬ (n : Int) < 1 := by omega
  have i2 : ¬ (1024 : Int) < n := by omega
  go_enter Try.func21, Try.ntmps21
  go_wp2_with fail
  go_ret2
  refine ⟨_, rfl, ⟨⟨h1, h2, (by simp [rnew]), (by simp [rnew]), (fun x hx => by cases hx)⟩, .slice none 0 0, .slice none 0 0, ?_⟩, (Below.refl _ _).alloc (Nat.le_refl _) _⟩
  have hno : ∀ g, (Value.slice none 0 0).ownBlock = some g → W.heap.size ≤ g := fun g hg => by simp [Value.ownBlock] at hg
  exact ⟨blk_new W _, World.ownsRow_nil _ _ _ _, World.ownsRow_nil _ _ _ _, (fun g hg => by simp [Value.ownBlock] at hg), Nat.le_refl _, hno, hno, (fun x hx => by cases hx), (fun x hx => by cases hx)⟩
end Go.Proofs.Ytfhnhkjbfaieiaa.Bl
