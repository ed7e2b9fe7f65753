/- An act's bytes (bytes); a row that is lent, and looked at (Lent, Whole). Condition: the bytes lie in a row of the call's own. -/
import Derived.Test.YtfhnhkjbfaieiaaR4
namespace Go.Proofs.Ytfhnhkjbfaieiaa.Bl
open Go.RowKit
set_option linter.unusedVariables false
set_option linter.unusedSimpArgs false
def nnF (y : Ac) : Int := if y.n < 0 then 64 else y.n
def mF (y : Ac) : Nat := min (nnF y).toNat 200
def rowF (c : Int) (i : Nat) : List Int := (List.range i).map (fun j => (c + (j : Nat)) % 256)
def bytesF (y : Ac) : List Int := rowF y.fill (mF y)
theorem rowF_len (c : Int) (i : Nat) : (rowF c i).length = i := by simp [rowF]
theorem rowF_succ (c : Int) (i : Nat) : bv (rowF c (i + 1)) = bv (rowF c i) ++ [.int .u8 ((c + i) % 256)] := by simp [rowF, bv, List.range_succ]
theorem rowF_ok (c : Int) (i : Nat) : ByteOk (rowF c i) := fun y hy => by
  obtain ⟨j, _, rfl⟩ := List.mem_map.1 hy
  omega
theorem bytesF_len (y : Ac) : (bytesF y).length = mF y := rowF_len _ _
theorem mF_le (y : Ac) : mF y ≤ 200 := Nat.min_le_right _ _
set_option maxHeartbeats 4000000 in
theorem bytes_a (y : Ac) (W : World) (hn2 : y.n ≤ 9223372036854775807) :
    Calls Try.prog 28 #[.agg #[.int .i64 y.kind, .int .i64 y.pos, .int .i64 y.n, .int .u8 y.fill]] W fun e W' => ∃ v, e = .returned v ∧ W'.ownsRow W.heap.size 5 1 v (mF y) (bv (bytesF y)) ∧ Below W.heap.size W W' := by
  obtain ⟨i0, hi, hz0, hz1, hz2⟩ := info_parts info5
  have hm := As.mk (show mF y = min (nnF y).toNat 200 from rfl)
  have hb := As.mk (show bytesF y = rowF y.fill (mF y) from rfl)
  have hnn := As.mk (show nnF y = if y.n < 0 then 64 else y.n from rfl)
  have hnn2 : nnF y ≤ 9223372036854775807 := by unfold nnF; split <;> omega
  generalize mF y = m at *
  generalize bytesF y = bb at *
  generalize nnF y = nn at *
  obtain ⟨kd, ps, nx, fl⟩ := y
  simp only at *
  go_enter Try.func28, Try.ntmps28
  go_upto_if 9 with fail
  have hB1 : As ((W.alloc (.cells #[.int .i64 kd, .int .i64 ps, .int .i64 nx, .int .u8 fl] 30 (0, 0))).heap[W.heap.size]? = some (.cells #[.int .i64 kd, .int .i64 ps, .int .i64 nx, .int .u8 fl] 30 (0, 0))) := ⟨blk_new W _⟩
  have hL1 : As (Below W.heap.size W (W.alloc (.cells #[.int .i64 kd, .int .i64 ps, .int .i64 nx, .int .u8 fl] 30 (0, 0)))) := ⟨(Below.refl _ _).alloc (Nat.le_refl _) _⟩
  generalize W.alloc (.cells #[.int .i64 kd, .int .i64 ps, .int .i64 nx, .int .u8 fl] 30 (0, 0)) = w1 at *
  go_cut [3] from 8 to 9 (fun v3 w' => v3 = .int .i64 nn ∧ w' = w1)
  case first =>
    by_cases hk : nx < 0
    · go_wp2_with fail
      go_meet
      case rel => exact ⟨by rw [hnn.out, if_pos (by omega)], rfl⟩
    · go_wp2_with fail
      go_meet
      case rel => exact ⟨by rw [hnn.out, if_neg (by omega)], rfl⟩
  case rest =>
    obtain ⟨rfl, rfl⟩ := hcut
    have hnn0 : 0 ≤ nn := by rw [hnn.out]; split <;> omega
    go_wp2_with fail
    go_loopg [4, 5] m (fun gk v4 v5 w' => ∃ i : Nat, v5 = .int .i64 i ∧ As (gk = m - i) ∧ As (i ≤ m) ∧ As (w'.ownsRow W.heap.size 5 1 v4 i (bv (rowF fl i))) ∧ As (w'.heap[W.heap.size]? = some (.cells #[.int .i64 kd, .int .i64 ps, .int .i64 nx, .int .u8 fl] 30 (0, 0))) ∧ As (Below W.heap.size W w'))
    case atStart => exact ⟨0, rfl, ⟨rfl⟩, ⟨Nat.zero_le _⟩, ⟨World.ownsRow_nil _ _ _ _⟩, hB1, hL1⟩
    case round =>
      obtain ⟨i, rfl, HK, HI, HO, HX, HB⟩ := hrel
      have e3 : wr.cell? ⟨W.heap.size, 3, none⟩ = some (.int .u8 fl) := (blk_cell HX.out 3).trans rfl
      by_cases hi1 : i < m
      · have hm' := hm.out
        have g1 : (i : Int) < nn := by omega
        have g2 : (i : Int) < 200 := by omega
        have hbl := blk_lt HX.out
        have hwr : IntKind.u8.wrap (fl + IntKind.u8.wrap (i : Int)) = (fl + i) % 256 := by
          show (fl + (i : Int) % 256) % 256 = _
          omega
        clear hm'
        go_wp2_with ((at_builtin; refine wpList_append_lies _ rfl _ _ 33 rfl W.heap.size 5 i0 (.int .u8 0) 1 1 Try.underlying33 hi hz0 hz1 hz2 rfl (by decide) _ _ _ rfl (HO.out.alloc _) ⟨wr.heap.size, 0, none⟩ 1 1 [.int .u8 ((fl + i) % 256)] rfl rfl (World.news_of_block (blk_new wr _)) (by simp [Value.oneCell']) (by omega) (by unfold maxLen; omega) (by omega) (by have := HB.out.size; simp; omega) _ rfl ?_))
        intro g cap w1 hown hgrow hat hl
        have hs := HB.out.size
        have HO' : As (w1.ownsRow W.heap.size 5 1 (.slice (some ⟨g, 0, none⟩) (i + 1) cap) (i + 1) (bv (rowF fl (i + 1)))) := ⟨by rw [rowF_succ]; exact hown⟩
        have HX' : As (w1.heap[W.heap.size]? = some (.cells #[.int .i64 kd, .int .i64 ps, .int .i64 nx, .int .u8 fl] 30 (0, 0))) := ⟨by
          rw [hgrow.block _ (by simp; omega) (fun e => own_ne HO.out HX.out (by decide) _ e.symm rfl), Below.heap_alloc _ _ _ hbl]
          exact HX.out⟩
        have HB' : As (Below W.heap.size W w1) := ⟨(HB.out.alloc hs _).grown hgrow (by simp; omega) (fun k hk => (HO.out.lt k hk).1)⟩
        clear hown hgrow hat hl hs e3
        go_wp2_with fail
        go_roundg (m - (i + 1))
        case measure => have := HK.out; omega
        case rel => exact ⟨i + 1, by go_num, ⟨rfl⟩, ⟨hi1⟩, HO', HX', HB'⟩
      · obtain rfl : i = m := by have := HI.out; omega
        have hm' := hm.out
        have hob : As (wr.ownsRow W.heap.size 5 1 u4 i (bv bb)) := ⟨by rw [hb.out]; exact HO.out⟩
        by_cases g1 : (i : Int) < nn
        · have g2 : ¬ (i : Int) < 200 := by omega
          clear hm'
          go_wp2_with fail
          go_ret
          exact ⟨_, rfl, hob.out, HB.out⟩
        · clear hm'
          go_wp2_with fail
          go_ret
          exact ⟨_, rfl, hob.out, HB.out⟩
/-- A slice of a row of its own, in room beside which the two marks lie. -/
structure Marked (W : World) (base g n cap : Nat) (x : List Int) : Prop where
  row : W.ownsRow base 5 1 (.slice (some ⟨g, 0, none⟩) (n + 2) cap) (n + 2) (bv x ++ [.int .u8 91, .int .u8 92])
  len : x.length = n
theorem Marked.cap {W : World} {base g n cap : Nat} {x : List Int} (h : Marked W base g n cap x) : n + 2 ≤ cap := by
  obtain ⟨cur, _, _, h3, _⟩ := own_block h.row
  omega
theorem Marked.bytes {W : World} {base g n cap : Nat} {x : List Int} (h : Marked W base g n cap x) (hx : ByteOk x) : Bytes W (some ⟨g, 0, none⟩) x :=
  ⟨hx, fun _ => ⟨g, 0, rfl, own_lt h.row g rfl, own_range h.row 0 _ (fun j v hv => by
    rw [Nat.zero_add, List.getElem?_append_left (List.getElem?_eq_some_iff.1 hv).1]
    exact hv)⟩⟩
theorem lent_a {W : World} {base n : Nat} {v : Value} {x : List Int} (h : W.ownsRow base 5 1 v n (bv x)) (hn : n ≤ 1000) :
    Calls Try.prog 29 #[v] W fun e W' => ∃ g cap, e = .returned (.slice (some ⟨g, 0, none⟩) n cap) ∧ Marked W' W.heap.size g n cap x ∧ Below W.heap.size W W' := by
  obtain ⟨i0, hi0, hz0, hz1, hz2⟩ := info_parts info5
  have hxl : x.length = n := by have := h.1; rw [bv_len] at this; omega
  have HXL := As.mk hxl
  have hv : ∃ A c, v = .slice A n c := by
    rcases h.2 with ⟨hv, h0⟩ | ⟨g, cap, _, hv, _⟩
    · rw [hv, h0]; exact ⟨_, _, rfl⟩
    · exact ⟨_, _, hv⟩
  obtain ⟨A, c, rfl⟩ := hv
  have HC := As.mk (copy_a h (by omega))
  clear h hxl
  go_enter Try.func29, Try.ntmps29
  go_wp2_with fail
  refine HC.out.mono ?_
  rintro e w1 ⟨v', rfl, q1, q2⟩
  have Q1 := As.mk q1
  have Q2 := As.mk q2
  have hs1 := q2.size
  clear q1 q2 HC
  go_wp2_with ((at_builtin; refine wpList_append_lies _ rfl _ _ 33 rfl W.heap.size 5 i0 (.int .u8 0) 1 1 Try.underlying33 hi0 hz0 hz1 hz2 rfl (by decide) _ _ _ rfl (Q1.out.alloc _) ⟨w1.heap.size, 0, none⟩ 2 2 [.int .u8 91, .int .u8 92] rfl rfl (World.news_of_block (blk_new w1 _)) (by simp [Value.oneCell']) (by omega) (by unfold maxLen; omega) (by omega) (by simp; omega) _ rfl ?_))
  intro g cap w2 hown hgrow hat hl
  have HM : As (Marked w2 W.heap.size g n cap x) := ⟨⟨hown, HXL.out⟩⟩
  have HB : As (Below W.heap.size W w2) := ⟨(Q2.out.alloc hs1 _).grown hgrow (by simp; omega) (fun k hk => (Q1.out.lt k hk).1)⟩
  have hc := HM.out.cap
  have hc1 : (n : Int) ≤ cap := by omega
  clear hown hgrow hat hl
  go_wp2_with fail
  go_ret
  exact ⟨g, cap, rfl, HM.out, HB.out⟩
theorem whole_a {W : World} {base g n cap : Nat} {B : Option Addr} {d : Nat} {x : List Int} (h : Marked W base g n cap x) (hn : n ≤ 1000) (hx : ByteOk x) (hB : Bytes W B x) :
    Calls Try.prog 31 #[.slice (some ⟨g, 0, none⟩) n cap, .slice B n d] W fun e W' => e = .returned (.bool true) ∧ W = W' := by
  have k1 := conv_bytes (h.bytes hx) cap
  have k2 := conv_bytes hB d
  rw [h.len] at k1 k2
  have hc := h.cap
  have hc1 : (n : Int) + 2 ≤ cap := by omega
  have c0 : W.cell? ⟨g, n, none⟩ = some (.int .u8 91) := by
    rw [h.row.cellAt n (by omega), List.getElem?_append_right (by rw [bv_len, h.len]; exact Nat.le_refl _), bv_len, h.len, Nat.sub_self]
    rfl
  have c1 : W.cell? ⟨g, n + 1, none⟩ = some (.int .u8 92) := by
    rw [h.row.cellAt (n + 1) (by omega), List.getElem?_append_right (by rw [bv_len, h.len]; omega), bv_len, h.len, show n + 1 - n = 1 by omega]
    rfl
  clear h hx hB
  go_enter Try.func31, Try.ntmps31
  go_wp2_with fail
  go_ret
  exact ⟨rfl, rfl⟩
end Go.Proofs.Ytfhnhkjbfaieiaa.Bl
