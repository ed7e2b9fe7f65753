/- One act on both disks (both). Condition: the disks go side by side. -/
import Derived.Test.YtfhnhkjbfaieiaaR7
namespace Go.Proofs.Ytfhnhkjbfaieiaa.Bl
open Go.RowKit
set_option linter.unusedVariables false
set_option linter.unusedSimpArgs false
theorem size30 : (Try.prog.info? 30).map (·.size) = some 4 := by kernel_rfl
/-- Both disks go side by side; how many writes there are at most. -/
structure Side (W : World) (B : Nat) (av : Nat → Prop) (b1 b2 n i : Nat) (s : St) (r : RSt) : Prop where
  pair : Pair W B av b1 b2 n s r
  link : Link n s r
  few : r.sure.length + r.wait.length ≤ i
theorem Side.lower {W W' : World} {B b1 b2 n i : Nat} {av : Nat → Prop} {s : St} {r : RSt} (h : Side W B av b1 b2 n i s r) (hb : Below W.heap.size W W') : Side W' B (fun k => av k ∨ W.heap.size ≤ k ∧ k < W'.heap.size) b1 b2 n i s r := ⟨h.pair.lower hb, h.link, h.few⟩
theorem box_blk {W : World} {bx : Nat} {kd ps nx fl : Int} (h : W.heap[bx]? = some (.cells #[.int .i64 kd, .int .i64 ps, .int .i64 nx, .int .u8 fl] 30 (0, 0))) :
    W.cell? ⟨bx, 0, none⟩ = some (.int .i64 kd) ∧ W.cell? ⟨bx, 1, none⟩ = some (.int .i64 ps) ∧ W.cell? ⟨bx, 2, none⟩ = some (.int .i64 nx) ∧ W.rangeAt bx 0 [.int .i64 kd, .int .i64 ps, .int .i64 nx, .int .u8 fl] :=
  ⟨(blk_cell h 0).trans rfl, (blk_cell h 1).trans rfl, (blk_cell h 2).trans rfl, fun j v hv => by rw [blk_cell h, List.getElem?_toArray, Nat.zero_add]; exact hv⟩
theorem bytes_below {w w' : World} {A : Option Addr} {x : List Int} (h : Bytes w A x) (hb : Below w.heap.size w w') : Bytes w' A x := by
  refine ⟨h.1, fun hx => ?_⟩
  obtain ⟨q, o, rfl, hq, hr⟩ := h.2 hx
  exact ⟨q, o, rfl, Nat.lt_of_lt_of_le hq hb.size, range_heap hr (hb.block q hq)⟩
theorem bytes_of_row {W : World} {base m d : Nat} {A : Option Addr} {x : List Int} (h : W.ownsRow base 5 1 (.slice A m d) m (bv x)) (hx : ByteOk x) : Bytes W A x := by
  have hl := h.1
  rw [bv_len] at hl
  by_cases hm : 0 < m
  · obtain ⟨g, c, e, _, _⟩ := h.form hm
    have hA : A = some ⟨g, 0, none⟩ := by injection e
    subst hA
    exact bytes_of_own h hx
  · refine ⟨hx, fun h => absurd ?_ h⟩
    exact List.eq_nil_of_length_eq_zero (by omega)
theorem Marked.wide {W : World} {base g n cap : Nat} {x : List Int} (h : Marked W base g n cap x) : Wide W g 0 n := by
  refine ⟨own_lt h.row g rfl, fun j hj => ⟨⟨x[j]'(by rw [h.len]; exact hj), ?_⟩, h.row.frozenAt _⟩⟩
  rw [Nat.zero_add, h.row.cellAt j (by omega), List.getElem?_append_left (by rw [bv_len, h.len]; exact hj), bv_get, List.getElem?_eq_getElem (by rw [h.len]; exact hj)]
  rfl
theorem Marked.keep {W W' : World} {base g n cap : Nat} {x : List Int} (h : Marked W base g n cap x) (hk : W'.heap[g]? = W.heap[g]?) : Marked W' base g n cap x :=
  ⟨own_keep h.row (fun k hk' _ => by rw [← ob_eq hk']; exact hk), h.len⟩
theorem writeR_few {r r' : RSt} {n : Nat} {k e : Int} {x : List Int} (h : WriteR r n k x e r') : r'.sure.length + r'.wait.length ≤ r.sure.length + r.wait.length + 1 := by
  obtain ⟨e1, e2, _⟩ := ract_same r
  unfold WriteR at h
  split at h
  · rw [h.2]; omega
  · split at h
    · rw [h.2]; omega
    · split at h
      · rw [h.2]; omega
      · split at h
        · rw [h.2, e1, e2]; omega
        · obtain ⟨_, q, cap, rfl⟩ := h
          show (ractF r).2.sure.length + (r.wait ++ [_]).length ≤ _
          rw [e1, List.length_append]
          simp
          omega
theorem rcrash_few (r : RSt) (k c : Int) : (rcrashF r k c).sure.length + (rcrashF r k c).wait.length ≤ r.sure.length + r.wait.length := by
  show (r.sure ++ r.wait.take k.toNat ++ _).length + 0 ≤ _
  rw [List.length_append, List.length_append, List.length_take]
  cases h : r.wait[k.toNat]? with
  | none => simp; omega
  | some x =>
    have := (List.getElem?_eq_some_iff.1 h).1
    simp
    omega
theorem rflush_few (r : RSt) : (rflushF r).2.sure.length + (rflushF r).2.wait.length ≤ r.sure.length + r.wait.length := by
  obtain ⟨e1, e2, _⟩ := ract_same r
  unfold rflushF
  split
  · show (r.sure ++ r.wait).length + 0 ≤ _
    rw [List.length_append]
    omega
  · show (ractF r).2.sure.length + (ractF r).2.wait.length ≤ _
    rw [e1, e2]
    exact Nat.le_refl _
set_option maxHeartbeats 8000000 in
set_option maxRecDepth 100000 in
theorem both_a {W : World} {B b1 b2 n i : Nat} {s : St} {r : RSt} (y : Ac) (h : Side W B (fun _ => False) b1 b2 n i s r) (hi : i ≤ 1000)
    (hp1 : -9223372036854775808 ≤ y.pos) (hp2 : y.pos ≤ 9223372036854775807) (hn2 : y.n ≤ 9223372036854775807) :
    Calls Try.prog 23 #[.pointer (some ⟨b1, 0, none⟩), .pointer (some ⟨b2, 0, none⟩), .agg #[.int .i64 y.kind, .int .i64 y.pos, .int .i64 y.n, .int .u8 y.fill]] W
      fun e W' => e = .returned (.bool true) ∧ Below B W W' ∧ ∃ s' r', Side W' B (fun _ => False) b1 b2 n (i + 1) s' r' := by
  obtain ⟨kd, ps, nx, fl⟩ := y
  simp only at *
  have hB1 : As ((W.alloc (.cells #[.int .i64 kd, .int .i64 ps, .int .i64 nx, .int .u8 fl] 30 (0, 0))).heap[W.heap.size]? = some (.cells #[.int .i64 kd, .int .i64 ps, .int .i64 nx, .int .u8 fl] 30 (0, 0))) := ⟨blk_new W _⟩
  have hL1 : Below W.heap.size W (W.alloc (.cells #[.int .i64 kd, .int .i64 ps, .int .i64 nx, .int .u8 fl] 30 (0, 0))) := (Below.refl _ _).alloc (Nat.le_refl _) _
  have S1 := As.mk (h.lower hL1)
  have HB1 := As.mk (hL1.mono h.pair.low)
  have hav : As ((fun k => False ∨ W.heap.size ≤ k ∧ k < (W.alloc (.cells #[.int .i64 kd, .int .i64 ps, .int .i64 nx, .int .u8 fl] 30 (0, 0))).heap.size) W.heap.size) := ⟨.inr ⟨Nat.le_refl _, by simp⟩⟩
  go_enter Try.func23, Try.ntmps23
  go_upto_region 1 with fail
  generalize (fun k => False ∨ W.heap.size ≤ k ∧ k < (W.alloc (.cells #[.int .i64 kd, .int .i64 ps, .int .i64 nx, .int .u8 fl] 30 (0, 0))).heap.size) = av at *
  generalize W.alloc (.cells #[.int .i64 kd, .int .i64 ps, .int .i64 nx, .int .u8 fl] 30 (0, 0)) = w1 at *
  generalize hbx : W.heap.size = bx at *
  clear hbx h hL1
  obtain ⟨x0, x1, x2, x3⟩ := box_blk hB1.out
  by_cases k0 : kd = 0
  · subst k0
    go_wp2_with (first | (refine wpList_load_mid rfl 30 (.tmp 5) rfl bx 0 rfl [.int .i64 0, .int .i64 ps, .int .i64 nx, .int .u8 fl] _ x3 Try.underlying30 rfl size30 ?_))
    refine (bytes_a ⟨0, ps, nx, fl⟩ w1 hn2).mono ?_
    rintro e w2 ⟨v, rfl, q1, q2⟩
    have hlen := bytesF_len ⟨0, ps, nx, fl⟩
    have hle := mF_le ⟨0, ps, nx, fl⟩
    have hok := As.mk (show ByteOk (bytesF ⟨0, ps, nx, fl⟩) from rowF_ok _ _)
    generalize bytesF ⟨0, ps, nx, fl⟩ = bb at *
    generalize mF ⟨0, ps, nx, fl⟩ = m at *
    obtain rfl : m = bb.length := hlen.symm
    clear hlen
    have hv : ∃ A d, v = .slice A bb.length d := by
      rcases q1.2 with ⟨hv, h0⟩ | ⟨g, cap, _, hv, _⟩
      · rw [hv, h0]; exact ⟨_, _, rfl⟩
      · exact ⟨_, _, hv⟩
    obtain ⟨A, d, rfl⟩ := hv
    have Q1 := As.mk q1
    have Q2 := As.mk q2
    have hB2 := As.mk ((q2.block bx (blk_lt hB1.out)).trans hB1.out)
    clear q1 q2 x0 x1 x2 x3
    obtain ⟨x0, x1, x2, x3⟩ := box_blk hB2.out
    go_wp2_with fail
    refine (lent_a Q1.out (by omega)).mono ?_
    rintro e w3 ⟨g, cap, rfl, q1, q2⟩
    have hb13 : Below w1.heap.size w1 w3 := Q2.out.trans (q2.mono Q2.out.size)
    have S3 := As.mk (S1.out.lower hb13)
    have HB3 := As.mk (HB1.out.trans (hb13.mono S1.out.pair.low))
    have M3 := As.mk q1
    have V3 : As (w3.ownsRow w1.heap.size 5 1 (.slice A bb.length d) bb.length (bv bb)) := ⟨own_keep Q1.out (fun k _ hl => q2.block k hl)⟩
    have hB3 := As.mk ((q2.block bx (blk_lt hB2.out)).trans hB2.out)
    have hg1 : As (w1.heap.size ≤ g ∧ g < w3.heap.size) := ⟨Nat.le_trans Q2.out.size (q1.row.lt g rfl).1, own_lt q1.row g rfl⟩
    have hvb : As (∀ k, (Value.slice A bb.length d).ownBlock = some k → w1.heap.size ≤ k ∧ k < w3.heap.size) := ⟨fun k hk => ⟨(V3.out.lt k hk).1, own_lt V3.out k hk⟩⟩
    have hws : As (s.wait.length < 1000000) := ⟨by have := S1.out.few; have := congrArg List.length S1.out.link.wait; rw [List.length_map] at this; omega⟩
    have hrw : As (r.wait.length < 1000000) := ⟨by have := S1.out.few; omega⟩
    clear q1 q2 hb13 x0 x1 x2 x3 Q1 Q2 hB2
    obtain ⟨x0, x1, x2, x3⟩ := box_blk hB3.out
    go_wp2_with fail
    refine (Pair.left S3.out.pair (P := fun e => e = .returned (.int .i64 (writeF s n ps bb).1)) (s' := (writeF s n ps bb).2) (fun own h => (write_a h ps cap (M3.out.bytes hok.out) hws.out).mono (fun e W' q => ⟨q.1, q.2.1, q.2.2⟩))).mono ?_
    rintro e w4 ⟨rfl, q1, q2, q3⟩
    have P4 := As.mk q1
    have HB4 := As.mk (HB3.out.trans q2)
    have hB4 := As.mk ((q3 bx (.inl hav.out)).trans hB3.out)
    have M4 := As.mk (M3.out.keep (q3 g (.inr hg1.out)))
    have V4 : As (w4.ownsRow w1.heap.size 5 1 (.slice A bb.length d) bb.length (bv bb)) := ⟨own_keep V3.out (fun k hk hl => q3 k (.inr (hvb.out k hk)))⟩
    clear q1 q2 q3 x0 x1 x2 x3 M3 V3 hB3
    obtain ⟨x0, x1, x2, x3⟩ := box_blk hB4.out
    generalize hwf : writeF s n ps bb = wf at *
    have HWF := As.mk hwf
    clear hwf
    obtain ⟨we, ws⟩ := wf
    simp only at *
    go_wp2_with fail
    refine (Pair.right P4.out (P := fun e r' => ∃ q, e = .returned (.int .i64 q) ∧ WriteR r n ps bb q r') (fun own h => (rwrite_a h ps V4.out hok.out hrw.out).mono (fun e W' ⟨q, r', a, b, c, d⟩ => ⟨r', ⟨q, a, b⟩, c, d⟩))).mono ?_
    rintro e w5 ⟨r', ⟨q, rfl, hwr⟩, q1, q2, q3⟩
    have HL := As.mk (S1.out.link.write (fun y hy => (S1.out.pair.rows.2 y hy).1) hwr)
    have HFW := As.mk (writeR_few hwr)
    have P5 := As.mk q1
    have HB5 := As.mk (HB4.out.trans q2)
    have M5 := As.mk (M4.out.keep (q3 g (.inr hg1.out)))
    have V5 : As (w5.ownsRow w1.heap.size 5 1 (.slice A bb.length d) bb.length (bv bb)) := ⟨own_keep V4.out (fun k hk hl => q3 k (.inr (hvb.out k hk)))⟩
    clear q1 q2 q3 x0 x1 x2 x3 M4 V4 hB4 hwr
    have hee : we = q := by have := HL.out.1; rw [HWF.out] at this; exact this
    subst hee
    go_wp2_with fail
    refine (whole_a M5.out (by omega) hok.out (bytes_of_row V5.out hok.out)).mono ?_
    rintro e _ ⟨rfl, rfl⟩
    go_wp2_with fail
    refine (spoil_a g 0 bb.length cap w5 M5.out.wide (by omega)).mono ?_
    rintro e w6 ⟨rfl, hf⟩
    have P6 := As.mk (P5.out.free hf (.inr hg1.out))
    have HB6 := As.mk (HB5.out.trans (hf.below P5.out.low (fun k e => by subst e; exact Nat.le_trans S1.out.pair.low hg1.out.1)))
    clear hf
    go_wp2_with fail
    go_ret
    refine ⟨by simp, HB6.out, _, _, ⟨P6.out.forget, ?_, by have := S1.out.few; have := HFW.out; omega⟩⟩
    have := HL.out.2
    rw [HWF.out] at this
    exact this
  by_cases k1 : kd = 1
  · subst k1
    go_wp2_with (first | (refine wpList_load_mid rfl 30 (.tmp 5) rfl bx 0 rfl [.int .i64 1, .int .i64 ps, .int .i64 nx, .int .u8 fl] _ x3 Try.underlying30 rfl size30 ?_))
    refine (bytes_a ⟨1, ps, nx, fl⟩ w1 hn2).mono ?_
    rintro e w2 ⟨v, rfl, q1, q2⟩
    have hlen := bytesF_len ⟨1, ps, nx, fl⟩
    have hle := mF_le ⟨1, ps, nx, fl⟩
    have hok := As.mk (show ByteOk (bytesF ⟨1, ps, nx, fl⟩) from rowF_ok _ _)
    generalize bytesF ⟨1, ps, nx, fl⟩ = bb at *
    generalize mF ⟨1, ps, nx, fl⟩ = m at *
    obtain rfl : m = bb.length := hlen.symm
    clear hlen
    have hv : ∃ A d, v = .slice A bb.length d := by
      rcases q1.2 with ⟨hv, h0⟩ | ⟨g, cap, _, hv, _⟩
      · rw [hv, h0]; exact ⟨_, _, rfl⟩
      · exact ⟨_, _, hv⟩
    obtain ⟨A, d, rfl⟩ := hv
    have Q1 := As.mk q1
    have Q2 := As.mk q2
    have hB2 := As.mk ((q2.block bx (blk_lt hB1.out)).trans hB1.out)
    clear q1 q2 x0 x1 x2 x3
    obtain ⟨x0, x1, x2, x3⟩ := box_blk hB2.out
    go_wp2_with fail
    refine (lent_a Q1.out (by omega)).mono ?_
    rintro e w3 ⟨g, cap, rfl, q1, q2⟩
    have hb13 : Below w1.heap.size w1 w3 := Q2.out.trans (q2.mono Q2.out.size)
    have S3 := As.mk (S1.out.lower hb13)
    have HB3 := As.mk (HB1.out.trans (hb13.mono S1.out.pair.low))
    have M3 := As.mk q1
    have V3 : As (w3.ownsRow w1.heap.size 5 1 (.slice A bb.length d) bb.length (bv bb)) := ⟨own_keep Q1.out (fun k _ hl => q2.block k hl)⟩
    have hB3 := As.mk ((q2.block bx (blk_lt hB2.out)).trans hB2.out)
    have hg1 : As (w1.heap.size ≤ g ∧ g < w3.heap.size) := ⟨Nat.le_trans Q2.out.size (q1.row.lt g rfl).1, own_lt q1.row g rfl⟩
    have hvb : As (∀ k, (Value.slice A bb.length d).ownBlock = some k → w1.heap.size ≤ k ∧ k < w3.heap.size) := ⟨fun k hk => ⟨(V3.out.lt k hk).1, own_lt V3.out k hk⟩⟩
    have hws : As (s.wait.length < 1000000) := ⟨by have := S1.out.few; have := congrArg List.length S1.out.link.wait; rw [List.length_map] at this; omega⟩
    have hrw : As (r.wait.length < 1000000) := ⟨by have := S1.out.few; omega⟩
    clear q1 q2 hb13 x0 x1 x2 x3 Q1 Q2 hB2
    obtain ⟨x0, x1, x2, x3⟩ := box_blk hB3.out
    go_wp2_with fail
    refine (Pair.left S3.out.pair (P := fun e => e = .returned (.int .i64 (writeF s n ps bb).1)) (s' := (writeF s n ps bb).2) (fun own h => (write_a h ps cap (M3.out.bytes hok.out) hws.out).mono (fun e W' q => ⟨q.1, q.2.1, q.2.2⟩))).mono ?_
    rintro e w4 ⟨rfl, q1, q2, q3⟩
    have P4 := As.mk q1
    have HB4 := As.mk (HB3.out.trans q2)
    have hB4 := As.mk ((q3 bx (.inl hav.out)).trans hB3.out)
    have M4 := As.mk (M3.out.keep (q3 g (.inr hg1.out)))
    have V4 : As (w4.ownsRow w1.heap.size 5 1 (.slice A bb.length d) bb.length (bv bb)) := ⟨own_keep V3.out (fun k hk hl => q3 k (.inr (hvb.out k hk)))⟩
    clear q1 q2 q3 x0 x1 x2 x3 M3 V3 hB3
    obtain ⟨x0, x1, x2, x3⟩ := box_blk hB4.out
    generalize hwf : writeF s n ps bb = wf at *
    have HWF := As.mk hwf
    clear hwf
    obtain ⟨we, ws⟩ := wf
    simp only at *
    go_wp2_with fail
    refine (Pair.right P4.out (P := fun e r' => ∃ q, e = .returned (.int .i64 q) ∧ WriteR r n ps bb q r') (fun own h => (rwrite_a h ps V4.out hok.out hrw.out).mono (fun e W' ⟨q, r', a, b, c, d⟩ => ⟨r', ⟨q, a, b⟩, c, d⟩))).mono ?_
    rintro e w5 ⟨r', ⟨q, rfl, hwr⟩, q1, q2, q3⟩
    have HL := As.mk (S1.out.link.write (fun y hy => (S1.out.pair.rows.2 y hy).1) hwr)
    have HFW := As.mk (writeR_few hwr)
    have P5 := As.mk q1
    have HB5 := As.mk (HB4.out.trans q2)
    have M5 := As.mk (M4.out.keep (q3 g (.inr hg1.out)))
    have V5 : As (w5.ownsRow w1.heap.size 5 1 (.slice A bb.length d) bb.length (bv bb)) := ⟨own_keep V4.out (fun k hk hl => q3 k (.inr (hvb.out k hk)))⟩
    clear q1 q2 q3 x0 x1 x2 x3 M4 V4 hB4 hwr
    have hee : we = q := by have := HL.out.1; rw [HWF.out] at this; exact this
    subst hee
    go_wp2_with fail
    refine (whole_a M5.out (by omega) hok.out (bytes_of_row V5.out hok.out)).mono ?_
    rintro e _ ⟨rfl, rfl⟩
    go_wp2_with fail
    refine (spoil_a g 0 bb.length cap w5 M5.out.wide (by omega)).mono ?_
    rintro e w6 ⟨rfl, hf⟩
    have P6 := As.mk (P5.out.free hf (.inr hg1.out))
    have HB6 := As.mk (HB5.out.trans (hf.below P5.out.low (fun k e => by subst e; exact Nat.le_trans S1.out.pair.low hg1.out.1)))
    clear hf
    go_wp2_with fail
    go_ret
    refine ⟨by simp, HB6.out, _, _, ⟨P6.out.forget, ?_, by have := S1.out.few; have := HFW.out; omega⟩⟩
    have := HL.out.2
    rw [HWF.out] at this
    exact this
  by_cases k2 : kd = 2
  · subst k2
    go_wp2_with (first | (refine wpList_load_mid rfl 30 (.tmp 5) rfl bx 0 rfl [.int .i64 2, .int .i64 ps, .int .i64 nx, .int .u8 fl] _ x3 Try.underlying30 rfl size30 ?_))
    refine (bytes_a ⟨2, ps, nx, fl⟩ w1 hn2).mono ?_
    rintro e w2 ⟨v, rfl, q1, q2⟩
    have hlen := bytesF_len ⟨2, ps, nx, fl⟩
    have hle := mF_le ⟨2, ps, nx, fl⟩
    have hok := As.mk (show ByteOk (bytesF ⟨2, ps, nx, fl⟩) from rowF_ok _ _)
    generalize bytesF ⟨2, ps, nx, fl⟩ = bb at *
    generalize mF ⟨2, ps, nx, fl⟩ = m at *
    obtain rfl : m = bb.length := hlen.symm
    clear hlen
    have hv : ∃ A d, v = .slice A bb.length d := by
      rcases q1.2 with ⟨hv, h0⟩ | ⟨g, cap, _, hv, _⟩
      · rw [hv, h0]; exact ⟨_, _, rfl⟩
      · exact ⟨_, _, hv⟩
    obtain ⟨A, d, rfl⟩ := hv
    have Q1 := As.mk q1
    have Q2 := As.mk q2
    have hB2 := As.mk ((q2.block bx (blk_lt hB1.out)).trans hB1.out)
    clear q1 q2 x0 x1 x2 x3
    obtain ⟨x0, x1, x2, x3⟩ := box_blk hB2.out
    go_wp2_with fail
    refine (lent_a Q1.out (by omega)).mono ?_
    rintro e w3 ⟨g, cap, rfl, q1, q2⟩
    have hb13 : Below w1.heap.size w1 w3 := Q2.out.trans (q2.mono Q2.out.size)
    have S3 := As.mk (S1.out.lower hb13)
    have HB3 := As.mk (HB1.out.trans (hb13.mono S1.out.pair.low))
    have M3 := As.mk q1
    have V3 : As (w3.ownsRow w1.heap.size 5 1 (.slice A bb.length d) bb.length (bv bb)) := ⟨own_keep Q1.out (fun k _ hl => q2.block k hl)⟩
    have hB3 := As.mk ((q2.block bx (blk_lt hB2.out)).trans hB2.out)
    have hg1 : As (w1.heap.size ≤ g ∧ g < w3.heap.size) := ⟨Nat.le_trans Q2.out.size (q1.row.lt g rfl).1, own_lt q1.row g rfl⟩
    have hvb : As (∀ k, (Value.slice A bb.length d).ownBlock = some k → w1.heap.size ≤ k ∧ k < w3.heap.size) := ⟨fun k hk => ⟨(V3.out.lt k hk).1, own_lt V3.out k hk⟩⟩
    have hws : As (s.wait.length < 1000000) := ⟨by have := S1.out.few; have := congrArg List.length S1.out.link.wait; rw [List.length_map] at this; omega⟩
    have hrw : As (r.wait.length < 1000000) := ⟨by have := S1.out.few; omega⟩
    clear q1 q2 hb13 x0 x1 x2 x3 Q1 Q2 hB2
    obtain ⟨x0, x1, x2, x3⟩ := box_blk hB3.out
    go_wp2_with fail
    refine (Pair.left S3.out.pair (P := fun e => e = .returned (.int .i64 (writeF s n ps bb).1)) (s' := (writeF s n ps bb).2) (fun own h => (write_a h ps cap (M3.out.bytes hok.out) hws.out).mono (fun e W' q => ⟨q.1, q.2.1, q.2.2⟩))).mono ?_
    rintro e w4 ⟨rfl, q1, q2, q3⟩
    have P4 := As.mk q1
    have HB4 := As.mk (HB3.out.trans q2)
    have hB4 := As.mk ((q3 bx (.inl hav.out)).trans hB3.out)
    have M4 := As.mk (M3.out.keep (q3 g (.inr hg1.out)))
    have V4 : As (w4.ownsRow w1.heap.size 5 1 (.slice A bb.length d) bb.length (bv bb)) := ⟨own_keep V3.out (fun k hk hl => q3 k (.inr (hvb.out k hk)))⟩
    clear q1 q2 q3 x0 x1 x2 x3 M3 V3 hB3
    obtain ⟨x0, x1, x2, x3⟩ := box_blk hB4.out
    generalize hwf : writeF s n ps bb = wf at *
    have HWF := As.mk hwf
    clear hwf
    obtain ⟨we, ws⟩ := wf
    simp only at *
    go_wp2_with fail
    refine (Pair.right P4.out (P := fun e r' => ∃ q, e = .returned (.int .i64 q) ∧ WriteR r n ps bb q r') (fun own h => (rwrite_a h ps V4.out hok.out hrw.out).mono (fun e W' ⟨q, r', a, b, c, d⟩ => ⟨r', ⟨q, a, b⟩, c, d⟩))).mono ?_
    rintro e w5 ⟨r', ⟨q, rfl, hwr⟩, q1, q2, q3⟩
    have HL := As.mk (S1.out.link.write (fun y hy => (S1.out.pair.rows.2 y hy).1) hwr)
    have HFW := As.mk (writeR_few hwr)
    have P5 := As.mk q1
    have HB5 := As.mk (HB4.out.trans q2)
    have M5 := As.mk (M4.out.keep (q3 g (.inr hg1.out)))
    have V5 : As (w5.ownsRow w1.heap.size 5 1 (.slice A bb.length d) bb.length (bv bb)) := ⟨own_keep V4.out (fun k hk hl => q3 k (.inr (hvb.out k hk)))⟩
    clear q1 q2 q3 x0 x1 x2 x3 M4 V4 hB4 hwr
    have hee : we = q := by have := HL.out.1; rw [HWF.out] at this; exact this
    subst hee
    go_wp2_with fail
    refine (whole_a M5.out (by omega) hok.out (bytes_of_row V5.out hok.out)).mono ?_
    rintro e _ ⟨rfl, rfl⟩
    go_wp2_with fail
    refine (spoil_a g 0 bb.length cap w5 M5.out.wide (by omega)).mono ?_
    rintro e w6 ⟨rfl, hf⟩
    have P6 := As.mk (P5.out.free hf (.inr hg1.out))
    have HB6 := As.mk (HB5.out.trans (hf.below P5.out.low (fun k e => by subst e; exact Nat.le_trans S1.out.pair.low hg1.out.1)))
    clear hf
    go_wp2_with fail
    go_ret
    refine ⟨by simp, HB6.out, _, _, ⟨P6.out.forget, ?_, by have := S1.out.few; have := HFW.out; omega⟩⟩
    have := HL.out.2
    rw [HWF.out] at this
    exact this
  by_cases k3 : kd = 3
  · subst k3
    go_wp2_with fail
    refine (Pair.left S1.out.pair (P := fun e => e = .returned (.int .i64 (flushF s).1)) (s' := (flushF s).2) (fun own h => (flush_a h).mono (fun e W' q => ⟨q.1, q.2.1.mono (fun _ h _ => h), q.2.2⟩))).mono ?_
    rintro e w2 ⟨rfl, q1, q2, q3⟩
    have P2 := As.mk q1
    have HB2 := As.mk (HB1.out.trans q2)
    have hB2 := As.mk ((q3 bx hav.out).trans hB1.out)
    clear q1 q2 q3 x0 x1 x2 x3
    obtain ⟨x0, x1, x2, x3⟩ := box_blk hB2.out
    go_wp2_with fail
    refine (Pair.right P2.out (P := fun e r' => e = .returned (.int .i64 (rflushF r).1) ∧ r' = (rflushF r).2) (fun own h => (rflush_a h (by have := S1.out.few; omega)).mono (fun e W' q => ⟨_, ⟨q.1, rfl⟩, q.2.1.mono (fun _ h _ => h), q.2.2⟩))).mono ?_
    rintro e w3 ⟨_, ⟨rfl, rfl⟩, q1, q2, q3⟩
    have P3 := As.mk q1
    have HB3 := As.mk (HB2.out.trans q2)
    clear q1 q2 q3 x0 x1 x2 x3
    have HL := As.mk S1.out.link.flush
    have hfew := rflush_few r
    have hee : (flushF s).1 = (rflushF r).1 := HL.out.1
    generalize (rflushF r).1 = q at *
    generalize (flushF s).1 = q2 at *
    subst hee
    go_wp2_with fail
    go_ret
    exact ⟨by simp, HB3.out, _, _, ⟨P3.out.forget, HL.out.2, by have := S1.out.few; omega⟩⟩
  by_cases k4 : kd = 4
  · subst k4
    go_wp2_with fail
    have hfew : r.sure.length + r.wait.length < 1000000 := by have := S1.out.few; omega
    have hlk := As.mk (S1.out.link.read ps)
    obtain ⟨⟨o1, o2, d1, d2, _, _, _⟩, _, _⟩ := S1.out.pair
    have D2 := As.mk d2
    refine (read_u d1 ps).mono ?_
    clear d1 d2
    rintro e w2 ⟨A, c, rfl, q1, q2⟩
    have D3 := As.mk (D2.out.below q2 (Nat.le_refl _))
    have O2 := As.mk q1
    have B2 := As.mk q2
    have hB2 := As.mk ((q2.block bx (blk_lt hB1.out)).trans hB1.out)
    clear q1 q2 x0 x1 x2 x3
    obtain ⟨x0, x1, x2, x3⟩ := box_blk hB2.out
    go_wp2_with fail
    have HR := rread_u D3.out ps hfew
    rw [← hlk.out] at HR
    refine HR.mono ?_
    clear HR
    rintro e w3 ⟨A2, c2, rfl, q1, q2⟩
    have O3 := As.mk q1
    have hb13 : Below w1.heap.size w1 w3 := B2.out.trans (q2.mono B2.out.size)
    have S3 := As.mk (S1.out.lower hb13)
    have HB3 := As.mk (HB1.out.trans (hb13.mono S1.out.pair.low))
    have Y2 := As.mk (bytes_below O2.out.1 q2)
    have WD : As ((readV s n ps).1 = [] ∨ ∃ g, A = some ⟨g, 0, none⟩ ∧ w1.heap.size ≤ g ∧ Wide w3 g 0 (readV s n ps).1.length ∧ (readV s n ps).1.length ≤ 64) := ⟨by
      rcases O2.out.2 with h | ⟨g, h1, h2, h3, h4⟩
      · exact .inl h
      · exact .inr ⟨g, h1, h2, wide_keep h3 q2.size (q2.block g h3.1), h4⟩⟩
    clear q1 q2 hb13 x0 x1 x2 x3 O2 hlk D2 D3
    generalize readV s n ps = v at *
    obtain ⟨x, q⟩ := v
    simp only at *
    go_wp2_with fail
    refine (same_a A A2 x x c c2 w3 Y2.out O3.out.1).mono ?_
    rintro e _ ⟨rfl, rfl⟩
    rw [decide_eq_true (rfl : x = x)]
    go_wp2_with fail
    rcases WD.out with h | ⟨g, rfl, hg, hw, h64⟩
    · subst h
      refine (spoil_nil A c w3).mono ?_
      rintro e _ ⟨rfl, rfl⟩
      clear WD Y2 O3
      go_wp2_with fail
      go_ret
      exact ⟨by simp, HB3.out, _, _, ⟨S3.out.pair.forget, S3.out.link, by have := S3.out.few; omega⟩⟩
    · refine (spoil_a g 0 x.length c w3 hw (by omega)).mono ?_
      rintro e w4 ⟨rfl, hf⟩
      have P4 := As.mk (S3.out.pair.free hf (.inr ⟨hg, hw.1⟩))
      have HB4 := As.mk (HB3.out.trans (hf.below S3.out.pair.low (fun k e => by subst e; exact Nat.le_trans S1.out.pair.low hg)))
      clear WD Y2 O3 hf hw
      go_wp2_with fail
      go_ret
      exact ⟨by simp, HB4.out, _, _, ⟨P4.out.forget, S3.out.link, by have := S3.out.few; omega⟩⟩
  by_cases k5 : kd = 5
  · subst k5
    go_wp2_with fail
    refine (Pair.left S1.out.pair (P := fun e => e = .returned (.tuple #[])) (s' := limitF s n ps) (fun own h => (limit_a h ps).mono (fun e W' q => ⟨q.1, q.2.1.mono (fun _ h _ => .inl h), q.2.2⟩))).mono ?_
    rintro e w2 ⟨rfl, q1, q2, q3⟩
    have P2 := As.mk q1
    have HB2 := As.mk (HB1.out.trans q2)
    have hB2 := As.mk ((q3 bx hav.out).trans hB1.out)
    clear q1 q2 q3 x0 x1 x2 x3
    obtain ⟨x0, x1, x2, x3⟩ := box_blk hB2.out
    go_wp2_with fail
    refine (Pair.right P2.out (P := fun e r' => e = .returned (.tuple #[]) ∧ r' = rlimitF r n ps) (fun own h => (rlimit_a h ps).mono (fun e W' q => ⟨_, ⟨q.1, rfl⟩, q.2.1.mono (fun _ h _ => .inl h), q.2.2⟩))).mono ?_
    rintro e w3 ⟨_, ⟨rfl, rfl⟩, q1, q2, q3⟩
    have P3 := As.mk q1
    have HB3 := As.mk (HB2.out.trans q2)
    clear q1 q2 q3 x0 x1 x2 x3
    go_wp2_with fail
    go_ret
    exact ⟨rfl, HB3.out, _, _, ⟨P3.out.forget, S1.out.link.limits ps, by have := S1.out.few; show r.sure.length + r.wait.length ≤ i + 1; omega⟩⟩
  by_cases k6 : kd = 6
  · subst k6
    go_wp2_with fail
    refine (Pair.left S1.out.pair (P := fun e => e = .returned (.tuple #[])) (s' := darkF s ps) (fun own h => (dark_a h ps hp2).mono (fun e W' q => ⟨q.1, q.2.1.mono (fun _ h _ => .inl h), q.2.2⟩))).mono ?_
    rintro e w2 ⟨rfl, q1, q2, q3⟩
    have P2 := As.mk q1
    have HB2 := As.mk (HB1.out.trans q2)
    have hB2 := As.mk ((q3 bx hav.out).trans hB1.out)
    clear q1 q2 q3 x0 x1 x2 x3
    obtain ⟨x0, x1, x2, x3⟩ := box_blk hB2.out
    go_wp2_with fail
    refine (Pair.right P2.out (P := fun e r' => e = .returned (.tuple #[]) ∧ r' = rdarkF r ps) (fun own h => (rdark_a h ps hp2).mono (fun e W' q => ⟨_, ⟨q.1, rfl⟩, q.2.1.mono (fun _ h _ => .inl h), q.2.2⟩))).mono ?_
    rintro e w3 ⟨_, ⟨rfl, rfl⟩, q1, q2, q3⟩
    have P3 := As.mk q1
    have HB3 := As.mk (HB2.out.trans q2)
    clear q1 q2 q3 x0 x1 x2 x3
    go_wp2_with fail
    go_ret
    exact ⟨rfl, HB3.out, _, _, ⟨P3.out.forget, S1.out.link.darks ps, by have := S1.out.few; show r.sure.length + r.wait.length ≤ i + 1; omega⟩⟩
  · have n0 : (kd == 0) = false := by simpa using k0
    have n1 : (kd == 1) = false := by simpa using k1
    have n2 : (kd == 2) = false := by simpa using k2
    have n3 : (kd == 3) = false := by simpa using k3
    have n4 : (kd == 4) = false := by simpa using k4
    have n5 : (kd == 5) = false := by simpa using k5
    have n6 : (kd == 6) = false := by simpa using k6
    clear k0 k1 k2 k3 k4 k5 k6
    have hrows := As.mk S1.out.pair.rows
    have hws : As (s.wait.length < 1000000) := ⟨by have := S1.out.few; have := congrArg List.length S1.out.link.wait; rw [List.length_map] at this; omega⟩
    go_wp2_with fail
    refine (Pair.left S1.out.pair (P := fun e => e = .returned (.tuple #[])) (s' := crashF s ps nx) (fun own h => (crash_a h ps nx hws.out hp1).mono (fun e W' q => ⟨q.1, q.2.1.mono (fun _ h _ => h), q.2.2⟩))).mono ?_
    rintro e w2 ⟨rfl, q1, q2, q3⟩
    have P2 := As.mk q1
    have HB2 := As.mk (HB1.out.trans q2)
    have hB2 := As.mk ((q3 bx hav.out).trans hB1.out)
    clear q1 q2 q3 x0 x1 x2 x3
    obtain ⟨x0, x1, x2, x3⟩ := box_blk hB2.out
    go_wp2_with fail
    refine (Pair.right P2.out (P := fun e r' => e = .returned (.tuple #[]) ∧ r' = rcrashF r ps nx) (fun own h => (rcrash_a h ps nx (by have := S1.out.few; omega) hp1).mono (fun e W' q => ⟨_, ⟨q.1, rfl⟩, q.2.1.mono (fun _ h _ => h), q.2.2⟩))).mono ?_
    rintro e w3 ⟨_, ⟨rfl, rfl⟩, q1, q2, q3⟩
    have P3 := As.mk q1
    have HB3 := As.mk (HB2.out.trans q2)
    clear q1 q2 q3 x0 x1 x2 x3
    go_wp2_with fail
    go_ret
    exact ⟨rfl, HB3.out, _, _, ⟨P3.out.forget, S1.out.link.crash (fun x hx => ⟨(hrows.out.2 x (List.mem_append_right _ hx)).2.1, hrows.out.1.full x hx⟩) (fun x hx => (hrows.out.2 x (List.mem_append_left _ hx)).1) ps nx, by have := S1.out.few; have := rcrash_few r ps nx; omega⟩⟩
end Go.Proofs.Ytfhnhkjbfaieiaa.Bl
