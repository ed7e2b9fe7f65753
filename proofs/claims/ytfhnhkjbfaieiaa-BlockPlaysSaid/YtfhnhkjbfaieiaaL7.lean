/- The function BlockPlays of layer 15, over its callees: it returns true. Condition: the argument reads as a list of acts. -/
import Derived.Test.YtfhnhkjbfaieiaaR8
namespace Go.Proofs.Ytfhnhkjbfaieiaa.Bl
open Go.RowKit
set_option linter.unusedVariables false
set_option linter.unusedSimpArgs false
theorem below_drewN {B : Nat} {W w : World} (h : Below B W w) (m : Nat) : Below B W (w.drewN m) := ⟨h.os, h.tape, h.output, h.size, h.block⟩
theorem acts_row {W : World} {A : Option Addr} {l : List Ac} (h : Acts W A l) (i : Nat) (hi : i < l.length) : ∃ b o, A = some ⟨b, o, none⟩ ∧ b < W.heap.size ∧ W.rangeAt b (o + i * 4) [.int .i64 l[i].kind, .int .i64 l[i].pos, .int .i64 l[i].n, .int .u8 l[i].fill] ∧ -9223372036854775808 ≤ l[i].pos ∧ l[i].pos ≤ 9223372036854775807 ∧ l[i].n ≤ 9223372036854775807 := by
  obtain ⟨b, o, rfl, hlt, a0, a1, a2, a3, hf0, hf1, hp0, hp1, hn0, hn1⟩ := h i hi
  refine ⟨b, o, rfl, hlt, fun j v hv => ?_, hp0, hp1, hn1⟩
  rcases j with _ | _ | _ | _ | j
  · exact a0.trans hv
  · exact a1.trans hv
  · exact a2.trans hv
  · exact a3.trans hv
  · simp at hv
theorem side_new {W w1 w2 : World} {b1 b2 n : Nat} (d1 : Disk w1 (fun k => W.heap.size ≤ k) b1 n (newS n)) (h1 : Below W.heap.size W w1) (d2 : RDisk w2 (fun k => w1.heap.size ≤ k) b2 n (rnew n)) (h2 : Below w1.heap.size w1 w2) :
    Side w2 W.heap.size (fun _ => False) b1 b2 n 0 (newS n) (rnew n) :=
  ⟨⟨⟨fun k => W.heap.size ≤ k ∧ k < w1.heap.size, fun k => w1.heap.size ≤ k, (d1.mono (fun k h hl => ⟨h, hl⟩)).below h2 (Nat.le_refl _), d2, fun k a b => by have := a.2; omega, fun k a => ⟨a.1, id⟩, fun k a => ⟨Nat.le_trans h1.size a, id⟩⟩, Nat.le_trans h1.size h2.size, fun k h => h.elim⟩, link_new n, Nat.le_refl _⟩
theorem Side.left {W : World} {B b1 b2 n i : Nat} {av : Nat → Prop} {s : St} {r : RSt} (h : Side W B av b1 b2 n i s r) : ∃ o1, Disk W o1 b1 n s := by
  obtain ⟨o1, o2, d1, _⟩ := h.pair.ex
  exact ⟨o1, d1⟩
theorem Side.right {W : World} {B b1 b2 n i : Nat} {av : Nat → Prop} {s : St} {r : RSt} (h : Side W B av b1 b2 n i s r) : ∃ o2, RDisk W o2 b2 n r := by
  obtain ⟨o1, o2, d1, d2, _⟩ := h.pair.ex
  exact ⟨o2, d2⟩
theorem Side.drewN {W : World} {B b1 b2 n i : Nat} {av : Nat → Prop} {s : St} {r : RSt} (h : Side W B av b1 b2 n i s r) (m : Nat) : Side (W.drewN m) B av b1 b2 n i s r := by
  obtain ⟨⟨⟨o1, o2, d1, d2, hd, h1, h2⟩, low, avl⟩, hl, hf⟩ := h
  exact ⟨⟨⟨o1, o2, d1.keep (fun _ _ _ => rfl), d2.keep (fun _ _ _ => rfl), hd, h1, h2⟩, low, avl⟩, hl, hf⟩
theorem Side.cells {W : World} {B b1 b2 n i : Nat} {av : Nat → Prop} {s : St} {r : RSt} (h : Side W B av b1 b2 n i s r) : ∃ A c, W.cell? ⟨b2, 2, none⟩ = some (.slice A r.wait.length c) ∧ W.cell? ⟨b2, 5, none⟩ = some (.bool r.dim) := by
  obtain ⟨o2, ⟨hok, vs, vw, d2⟩⟩ := h.right
  obtain ⟨c0, c1, c2, c3, c4, c5⟩ := d2.cells
  have hv : ∃ A c, vw = .slice A r.wait.length c := by
    rcases d2.wait.2 with ⟨hv, h0⟩ | ⟨g, cap, _, hv, _⟩
    · rw [hv, h0]; exact ⟨_, _, rfl⟩
    · exact ⟨_, _, hv⟩
  obtain ⟨A, c, rfl⟩ := hv
  exact ⟨A, c, c2, c5⟩
set_option maxHeartbeats 8000000 in
set_option maxRecDepth 100000 in
theorem plays_a (A : Option Addr) (c : Nat) (l : List Ac) (x : Int) (W : World) (hA : Acts W A l) (hl : l.length ≤ 9223372036854775807) (hx : -9223372036854775808 ≤ x ∧ x ≤ 9223372036854775807) :
    Calls Try.prog 7 #[.int .i64 x, .slice A l.length c] W fun e W' => e = .returned (.bool true) ∧ Below W.heap.size W W' := by
  have HA := As.mk hA
  clear hA
  by_cases h64 : 64 < x
  · by_cases h1024 : x ≤ 1024
    · go_enter Try.func7, Try.ntmps7
      go_wp2_with fail
      refine (known_calls W).mono ?_
      rintro e w1 ⟨rfl, q⟩
      have Q := As.mk q
      clear q
      go_wp2_with fail
      go_ret
      exact ⟨rfl, Q.out⟩
    · go_enter Try.func7, Try.ntmps7
      go_wp2_with fail
      refine (new_no x (.inr (by omega)) W).mono ?_
      rintro e _ ⟨rfl, rfl⟩
      go_wp2_with fail
      refine (rnew_no x (.inr (by omega)) W).mono ?_
      rintro e _ ⟨rfl, rfl⟩
      go_wp2_with fail
      refine (known_calls W).mono ?_
      rintro e w1 ⟨rfl, q⟩
      have Q := As.mk q
      clear q
      go_wp2_with fail
      go_ret
      exact ⟨rfl, Q.out⟩
  · by_cases h1 : x < 1
    · go_enter Try.func7, Try.ntmps7
      go_wp2_with fail
      refine (new_no x (.inl (by omega)) W).mono ?_
      rintro e _ ⟨rfl, rfl⟩
      go_wp2_with fail
      refine (rnew_no x (.inl (by omega)) W).mono ?_
      rintro e _ ⟨rfl, rfl⟩
      go_wp2_with fail
      refine (known_calls W).mono ?_
      rintro e w1 ⟨rfl, q⟩
      have Q := As.mk q
      clear q
      go_wp2_with fail
      go_ret
      exact ⟨rfl, Q.out⟩
    · obtain ⟨n, rfl⟩ : ∃ n : Nat, x = n := ⟨x.toNat, by omega⟩
      go_enter Try.func7, Try.ntmps7
      go_wp2_with fail
      refine (new_yes n (by omega) (by omega) W).mono ?_
      rintro e w1 ⟨b1, rfl, d1, q1, _⟩
      have D1 := As.mk d1
      have Q1 := As.mk q1
      clear d1 q1
      go_wp2_with fail
      refine (rnew_yes n (by omega) (by omega) w1).mono ?_
      rintro e w2 ⟨b2, rfl, d2, q2⟩
      have S2 := As.mk (side_new D1.out Q1.out d2 q2)
      have HB2 := As.mk (Q1.out.trans (q2.mono Q1.out.size))
      obtain ⟨o1, d1⟩ := S2.out.left
      have HBK := As.mk (blocks_a d1)
      clear d1 d2 q2 D1 Q1
      go_wp2_with fail
      refine HBK.out.mono ?_
      rintro e _ ⟨rfl, rfl⟩
      clear HBK
      go_upto_block 0 with fail
      go_cut [9, 10] from 57 to 94 (fun v9 v10 wc => ∃ s r, As (Side wc W.heap.size (fun _ => False) b1 b2 n 120 s r) ∧ As (Below W.heap.size W wc))
      case first =>
        go_wp2_with fail
        go_loopg [9] l.length (fun gk v9 w' => ∃ (i : Nat) (s : St) (r : RSt), v9 = .int .i64 i ∧ As (gk = l.length - i) ∧ As (i ≤ l.length) ∧ As (i ≤ 120) ∧ As (Side w' W.heap.size (fun _ => False) b1 b2 n i s r) ∧ As (Below W.heap.size W w'))
        case atStart => exact ⟨0, _, _, rfl, ⟨rfl⟩, ⟨Nat.zero_le _⟩, ⟨Nat.zero_le _⟩, S2, HB2⟩
        case round =>
          clear S2 HB2
          obtain ⟨i, s, r, rfl, HK, HI, HI2, HS, HB⟩ := hrel
          by_cases hi : i < l.length
          · by_cases hi2 : i < 120
            · obtain ⟨ab, ao, rfl, hlt, hr, hp0, hp1, hn1⟩ := acts_row HA.out i hi
              have hr2 := As.mk (range_heap hr (HB.out.block ab hlt))
              clear hr
              generalize l[i] = y at *
              have hid : decide ((i : Int) < 120) = true := decide_eq_true (by omega)
              go_wp2_with (first | (refine wpList_load_mid rfl 30 (.tmp 71) rfl ab (ao + i * 4) rfl [.int .i64 y.kind, .int .i64 y.pos, .int .i64 y.n, .int .u8 y.fill] _ hr2.out Try.underlying30 rfl size30 ?_))
              refine (both_a y HS.out (by omega) hp0 hp1 hn1).mono ?_
              rintro e w5 ⟨rfl, q1, s', r', q2⟩
              have HB5 := As.mk (HB.out.trans q1)
              have HS5 := As.mk q2
              clear q1 q2 HS HB
              obtain ⟨A5, c5, x2, x5⟩ := HS5.out.cells
              have hwl : s'.wait.length = r'.wait.length := by rw [HS5.out.link.wait, List.length_map]
              have hdk := HS5.out.link.dark
              have H16 : As (∀ m, Calls Try.prog 16 #[.pointer (some ⟨b1, 0, none⟩)] (w5.drewN m) fun e w' => e = .returned (.int .i64 r'.wait.length) ∧ w' = w5.drewN m) := ⟨fun m => by
                obtain ⟨o1, d1⟩ := (HS5.out.drewN m).left
                refine (waiting_a d1).mono ?_
                rintro e w' ⟨rfl, rfl⟩
                exact ⟨by rw [hwl], rfl⟩⟩
              have H19 : As (∀ m, Calls Try.prog 19 #[.pointer (some ⟨b1, 0, none⟩)] (w5.drewN m) fun e w' => e = .returned (.bool (!r'.dim)) ∧ w' = w5.drewN m) := ⟨fun m => by
                obtain ⟨o1, d1⟩ := (HS5.out.drewN m).left
                refine (lit_a d1).mono ?_
                rintro e w' ⟨rfl, rfl⟩
                exact ⟨by rw [hdk], rfl⟩⟩
              clear hwl hdk
              generalize r'.dim = dm at *
              generalize r'.wait.length = wl at *
              have hne1 : ((wl : Int) != (wl : Int)) = false := by simp
              have hne2 : ((!dm) == dm) = false := by cases dm <;> rfl
              go_upto_region 13 with fail
              go_quiet (first | (go_at_call 16; exact Calls.quiet_of_same (H16.out _)) | (go_at_call 19; exact Calls.quiet_of_same (H19.out _)))
              go_wp2_with fail
              go_roundg (l.length - (i + 1))
              case measure => have := HK.out; omega
              case rel => exact ⟨i + 1, s', r', by go_num, ⟨rfl⟩, ⟨hi⟩, ⟨hi2⟩, ⟨HS5.out.drewN _⟩, ⟨below_drewN HB5.out _⟩⟩
            · have hid : decide ((i : Int) < 120) = false := decide_eq_false (by omega)
              go_wp2_with fail
              go_meet
              case rel => exact ⟨s, r, ⟨⟨HS.out.pair, HS.out.link, by have := HS.out.few; have := HI2.out; omega⟩⟩, HB⟩
          · go_wp2_with fail
            go_meet
            case rel => exact ⟨s, r, ⟨⟨HS.out.pair, HS.out.link, by have := HS.out.few; have := HI2.out; omega⟩⟩, HB⟩
      case rest =>
        obtain ⟨s, r, HS, HB⟩ := hcut
        clear S2 HB2
        go_wp2_with fail
        go_loopg [11] n (fun gk v11 w' => ∃ (i : Nat), v11 = .int .i64 i ∧ As (gk = n - i) ∧ As (i ≤ n) ∧ As (Side w' W.heap.size (fun _ => False) b1 b2 n 120 s r) ∧ As (Below W.heap.size W w'))
        case atStart => exact ⟨0, rfl, ⟨rfl⟩, ⟨Nat.zero_le _⟩, HS, HB⟩
        case round =>
          clear HS HB
          obtain ⟨i, rfl, HK, HI, HS, HB⟩ := hrel
          by_cases hi : i < n
          · have hid : (i : Int) < (n : Int) := by omega
            have hfew : r.sure.length + r.wait.length < 1000000 := by have := HS.out.few; omega
            have hlk := As.mk (HS.out.link.read (i : Int))
            obtain ⟨⟨o1, o2, d1, d2, _, _, _⟩, _, _⟩ := HS.out.pair
            have D2 := As.mk d2
            have HR1 := As.mk (read_u d1 (i : Int))
            clear d1 d2
            go_wp2_with fail
            refine HR1.out.mono ?_
            rintro e w2 ⟨A1, c1, rfl, q1, q2⟩
            have D3 := As.mk (D2.out.below q2 (Nat.le_refl _))
            have O2 := As.mk q1
            have B2 := As.mk q2
            clear q1 q2 HR1 D2
            go_wp2_with fail
            have HR := rread_u D3.out (i : Int) hfew
            rw [← hlk.out] at HR
            refine HR.mono ?_
            clear HR
            rintro e w3 ⟨A2, c2, rfl, q1, q2⟩
            have O3 := As.mk q1
            have hb13 : Below wr.heap.size wr w3 := B2.out.trans (q2.mono B2.out.size)
            have S3 : As (Side w3 W.heap.size (fun _ => False) b1 b2 n 120 s r) := ⟨⟨(HS.out.pair.lower hb13).forget, HS.out.link, HS.out.few⟩⟩
            have HB3 := As.mk (HB.out.trans (hb13.mono HB.out.size))
            have Y2 := As.mk (bytes_below O2.out.1 q2)
            clear q1 q2 hb13 O2 hlk D3 HS HB
            generalize readV s n (i : Int) = v at *
            obtain ⟨x, q⟩ := v
            simp only at *
            go_wp2_with fail
            refine (same_a A1 A2 x x c1 c2 w3 Y2.out O3.out.1).mono ?_
            rintro e _ ⟨rfl, rfl⟩
            rw [decide_eq_true (rfl : x = x)]
            have hne : ((q : Int) != q) = false := by simp
            clear Y2 O3
            go_wp2_with fail
            go_roundg (n - (i + 1))
            case measure => have := HK.out; omega
            case rel => exact ⟨i + 1, by go_num, ⟨rfl⟩, ⟨hi⟩, S3, HB3⟩
          · obtain rfl : i = n := by have := HI.out; omega
            go_wp2_with fail
            refine (known_calls wr).mono ?_
            rintro e w2 ⟨rfl, q⟩
            have Q := As.mk (HB.out.trans (q.mono HB.out.size))
            clear q
            go_wp2_with fail
            go_ret
            exact ⟨rfl, Q.out⟩
end Go.Proofs.Ytfhnhkjbfaieiaa.Bl
