/- The function LeaseAlone of layer 7, over its callees: whatever is asked, it returns true. Conditions: the argument reads as a list of asks, numbers of their kinds. -/
import Derived.Test.YtmepidkffpmflaaA1
import Derived.Test.YtmepidkffpmflaaA2
import Derived.Test.YtmepidkffpmflaaKnLeaseAlone
namespace Go.Proofs.Ytmepidkffpmflaa.PLeaseAlone
open Go.RowKit Go.Proofs.YtmepidkffpmflaaW.PrintWords Go.Proofs.YtmepidkffpmflaaW.PrintLast Go.Proofs.YtmepidkffpmflaaW.PrintMore
set_option linter.unusedVariables false
set_option linter.unusedSimpArgs false
/-- An ask. -/
structure K5 where
  k : Int
  wt : Int
  wh : Int
  ln : Int
  md : Int
/-- The asks, as the argument reads. -/
def Asks (W : World) (A : Option Addr) (l : List K5) : Prop :=
  ∀ i (h : i < l.length), ∃ b o, A = some ⟨b, o, none⟩ ∧ b < W.heap.size ∧ W.cell? ⟨b, o + i * 5, none⟩ = some (.int .i64 l[i].k) ∧ W.cell? ⟨b, o + i * 5 + 1, none⟩ = some (.int .u16 l[i].wt) ∧
    W.cell? ⟨b, o + i * 5 + 2, none⟩ = some (.int .i64 l[i].wh) ∧ W.cell? ⟨b, o + i * 5 + 3, none⟩ = some (.int .u16 l[i].ln) ∧ W.cell? ⟨b, o + i * 5 + 4, none⟩ = some (.int .i64 l[i].md) ∧ 0 ≤ l[i].wt ∧ 0 ≤ l[i].ln
theorem Asks.below {W W' : World} {A : Option Addr} {l : List K5} {B : Nat} (h : Asks W A l) (hb : Below B W W') (hB : B = W.heap.size) : Asks W' A l := fun i hi => by
  subst hB
  obtain ⟨b, o, e, hlt, h0, h1, h2, h3, h4, h5⟩ := h i hi
  exact ⟨b, o, e, Nat.lt_of_lt_of_le hlt hb.size, by rw [hb.cell (p := ⟨b, _, none⟩) hlt]; exact h0, by rw [hb.cell (p := ⟨b, _, none⟩) hlt]; exact h1, by rw [hb.cell (p := ⟨b, _, none⟩) hlt]; exact h2, by rw [hb.cell (p := ⟨b, _, none⟩) hlt]; exact h3, by rw [hb.cell (p := ⟨b, _, none⟩) hlt]; exact h4, h5⟩
set_option maxHeartbeats 8000000 in
set_option maxRecDepth 100000 in
theorem alone_a (A : Option Addr) (c : Nat) (l : List K5) (guard later : Int) (w : World) (hA : Asks w A l) (hl : l.length ≤ 9223372036854775807) (hg : 0 ≤ guard) (hla : 0 ≤ later) :
    Calls Try.prog 7 #[.slice A l.length c, .int .u64 guard, .int .u64 later] w fun e w' => e = .returned (.bool true) ∧ Below w.heap.size w w' := by
  have HA := Aside0.mk hA
  have HB := Aside0.mk (Below.refl w.heap.size w)
  obtain ⟨g, hgd⟩ : ∃ g, guard.tmod 30 = g := ⟨_, rfl⟩
  have HG : Aside0 (0 ≤ g) := ⟨by rw [← hgd]; exact (tm guard 30 hg (by omega)).1⟩
  have HL := Aside0.mk hla
  clear hA hg hla
  go_enter Try.func7, Try.ntmps7
  go_wp2_with fail
  refine (drayagelaw07_empty.calls 0 0 0 1 _ rfl).mono ?_
  rintro e0 w1 ⟨rfl, hb1⟩
  go_wp2_with fail
  have HBASE : Aside0 (w.heap.size ≤ w1.heap.size) := ⟨hb1.size⟩
  generalize hW : w1.alloc (.cells #[.int .u32 0, .int .i64 0, .int .u64 0, .int .i64 1, .int .u64 0, .slice none 0 0] 50 (0, 0)) = W
  have BR : Aside0 (W.heap[w1.heap.size]? = some (.cells #[.int .u32 0, .int .i64 0, .int .u64 0, .int .i64 1, .int .u64 0, .slice none 0 0] 50 (0,0))) := ⟨by rw [← hW]; exact blk_new w1 _⟩
  have HB1 : Aside0 (Below w.heap.size w W) := ⟨by rw [← hW]; exact hb1.alloc hb1.size _⟩
  clear hW hb1 HB
  generalize w1.heap.size = b at *
  go_loopg [8] l.length (fun gk v8 w' => ∃ (i : Nat) (x : L4) (now : Int) (seen : List L4) (v : Value), v8 = .int .i64 i ∧ Aside0 (gk = l.length - i) ∧ Aside0 (i ≤ l.length) ∧ Aside0 (i ≤ 100) ∧ Aside0 (Inv x now seen i) ∧ Aside0 (w'.heap[b]? = some (.cells #[.int .u32 x.e, .int .i64 x.h, .int .u64 x.u, .int .i64 x.m, .int .u64 now, v] 50 (0,0))) ∧ Aside0 (Seen w' w.heap.size v seen) ∧ Aside0 (Below w.heap.size w w'))
  case atStart => exact ⟨0, ⟨0, 0, 0, 1⟩, 0, [], _, rfl, ⟨rfl⟩, ⟨Nat.zero_le _⟩, ⟨Nat.zero_le _⟩, ⟨inv_start⟩, BR, ⟨Seen.nil _ _⟩, HB1⟩
  case round =>
    clear BR HB1
    obtain ⟨i, x, now, seen, v, rfl, HK, HI, HI2, HV, BR, HS, HB2⟩ := hrel
    by_cases hi : i < l.length
    · by_cases hi2 : i < 100
      · obtain ⟨ab, ao, rfl, hlt, c0, c1, c2, c3, c4, hwt, hln⟩ := (HA.out.below HB2.out rfl) i hi
        generalize l[i] = y at *
        have hnow : 0 ≤ now ∧ now ≤ 39 * i := ⟨HV.out.1, HV.out.2.1⟩
        have hlen : seen.length ≤ i := HV.out.2.2.1
        have hN := nowF_in now y.wt hnow.1 (by omega) hwt
        obtain ⟨r, er, e1, e2, e3, e4, e5⟩ := step x now (nowF now y.wt) seen i y.k (wrap64 (1 + wrap64 ((IntKind.u64.wrap y.wh).tmod 2))) (IntKind.u64.wrap (1 + IntKind.u64.wrap (y.ln.tmod 60))) (lastOf (wrap64 (1 + wrap64 ((IntKind.u64.wrap y.wh).tmod 2))) seen 0) (wrap64 (1 + wrap64 ((IntKind.u64.wrap y.md).tmod 2))) g
          HV.out hi2 hN.1 hN.2 (by have := who_in y.wh; omega) (ones_in y.ln 60 hln (by omega) (by omega)) (by have := who_in y.md; omega) HG.out
        have E1 := Aside0.mk e1
        have E2 := Aside0.mk e2
        have E3 := Aside0.mk e3
        have E4 := Aside0.mk e4
        have E5 := Aside0.mk e5
        have HN := Aside0.mk hN
        have HNW := Aside0.mk hnow
        have HLEN := Aside0.mk hlen
        clear e1 e2 e3 e4 e5 hN hnow hlen
        go_wp2_with fail
        refine (asks_a 5 b w.heap.size x now seen y.k y.wt y.wh y.ln y.md g v _ BR.out HS.out HBASE.out r er E1.out E2.out E3.out E4.out (by have := HLEN.out; omega)).mono ?_
        rintro e0 w2 ⟨rfl, v2, BR2, HS2, HB3⟩
        have BR2 := Aside0.mk BR2
        have HS2 := Aside0.mk HS2
        have HB3 := Aside0.mk (HB2.out.trans HB3)
        clear BR HS HB2 E1 E2 E3 E4 c0 c1 c2 c3 c4 hwt hln HV
        generalize leaseF x r er = x2 at *
        generalize seenF y.k seen r er = seen2 at *
        generalize nowF now y.wt = now2 at *
        go_wp2_with fail
        have hb2 : b < w2.heap.size := blk_lt BR2.out
        go_loopg [10] 2 (fun gk v10 w' => ∃ (k : Nat), v10 = .int .i64 k ∧ Aside0 (gk = 2 - k) ∧ Aside0 (k ≤ 2) ∧ Aside0 (Below w2.heap.size w2 w'))
        case atStart => exact ⟨0, rfl, ⟨rfl⟩, ⟨by omega⟩, ⟨Below.refl _ _⟩⟩
        case round =>

          obtain ⟨k, rfl, HK2, HKL, HB4⟩ := hrel
          by_cases hk : k < 2
          · have BR4 : Aside0 (wr.heap[b]? = some (.cells #[.int .u32 x2.e, .int .i64 x2.h, .int .u64 x2.u, .int .i64 x2.m, .int .u64 now2, v2] 50 (0,0))) := ⟨(HB4.out.block b hb2).trans BR2.out⟩
            obtain ⟨c0, c1, c2, c3, c4, c5⟩ := cells6 BR4.out
            have hkd : decide ((k : Int) < 2) = true := decide_eq_true (by omega)
            obtain ⟨t, ht⟩ : ∃ t, IntKind.u64.wrap (now2 + IntKind.u64.wrap (↑k * later.tmod 70)) = t := ⟨_, rfl⟩
            have HT : Aside0 (now2 ≤ t) := ⟨by
              have h := tm later 70 HL.out (by omega)
              have h1 := HN.out
              have h2 := HNW.out
              rw [← ht]
              generalize later.tmod 70 = z at *
              rcases (show k = 0 ∨ k = 1 by omega) with rfl | rfl
              · rw [wrap_in (((0 : Nat) : Int) * z) (by simp) (by simp), wrap_in _ (by simp; omega) (by simp; omega)]; simp
              · rw [wrap_in (((1 : Nat) : Int) * z) (by simp; omega) (by simp; omega), wrap_in _ (by simp; omega) (by simp; omega)]; simp; omega⟩
            go_wp2_with fail
            clear ht
            obtain ⟨S2, C2, rfl, hSC⟩ := HS2.out.form
            have hs2l : seen2.length ≤ 100 := by have := E5.out.2.2.1; omega
            have HKK := Aside0.mk hk
            clear c0 c1 c2 c3 c4 c5 hk hkd
            go_loopg [12, 13] seen2.length (fun gk v12 v13 w' => ∃ (j : Nat), v13 = .int .i64 j ∧ v12 = .int .i64 (cnt t (seen2.take j)) ∧ Aside0 (gk = seen2.length - j) ∧ Aside0 (j ≤ seen2.length) ∧ Aside0 (Below w2.heap.size w2 w'))
            case atStart => exact ⟨0, rfl, rfl, ⟨rfl⟩, ⟨Nat.zero_le _⟩, HB4⟩
            case round =>
              clear HB4
              obtain ⟨j, rfl, rfl, HK3, HJ, HB4⟩ := hrel
              have BR5 : Aside0 (wr.heap[b]? = some (.cells #[.int .u32 x2.e, .int .i64 x2.h, .int .u64 x2.u, .int .i64 x2.m, .int .u64 now2, .slice S2 seen2.length C2] 50 (0,0))) := ⟨(HB4.out.block b hb2).trans BR2.out⟩
              obtain ⟨c0, c1, c2, c3, c4, c5⟩ := cells6 BR5.out
              by_cases hj : j < seen2.length
              · obtain ⟨q, rfl, e0, e1, e2, e3, hf⟩ := (HS2.out.below HB4.out).at j hj
                clear hf
                have hcl := cnt_le t (seen2.take j)
                have htl : (seen2.take j).length ≤ 100 := by rw [List.length_take]; omega
                have HCN : Aside0 (cnt t (seen2.take (j + 1)) = cnt t (seen2.take j) + if holdB t seen2[j] = true then 1 else 0) := ⟨cnt_next t seen2 j hj⟩
                generalize cnt t (seen2.take j) = n at *
                generalize hz : seen2[j] = z at *
                have k5 := cell_regrown c5
                have q0 := cell_regrown e0
                have q1 := cell_regrown e1
                have q2 := cell_regrown e2
                have q3 := cell_regrown e3
                by_cases hh : holdB t z = true
                · have cH : ∀ d os, Calls Try.prog 14 #[.agg #[.int .u32 z.e, .int .i64 z.h, .int .u64 z.u, .int .i64 z.m], .int .i64 z.h, .int .u64 t] (Sort.grow (redrawn wr d) os) fun e w'' => e = .returned (.bool true) ∧ ∃ p : Regrown, w'' = Sort.grow (redrawn wr p.d) p.os := fun d os => Calls.regrown_of (lease_Holds.calls _ _ _ _ _ _ _ _ (by rw [holds_eq]; exact congrArg some hh))
                  have HH := Aside0.mk hh
                  clear hh
                  go_upto_region 16 with fail
                  refine wp_region_quiet_below (by kernel_rfl) (by kernel_rfl) ?_
                  repeat (quiet_step (exact cH _ _))
                  refine wpQuiet_nil ?_
                  intro w5 ⟨p5, hp5⟩
                  have HB6 : Aside0 (Below w2.heap.size w2 w5) := ⟨by rw [hp5]; exact HB4.out.trans ((below_regrown wr _ _).mono HB4.out.size)⟩
                  clear hp5
                  go_wp2_with fail
                  go_roundg (seen2.length - (j + 1))
                  case measure => have := HK3.out; omega
                  case rel => exact ⟨j + 1, by go_num, by rw [HCN.out, if_pos HH.out]; go_num, ⟨rfl⟩, ⟨hj⟩, HB6⟩
                · have hh' : holdB t z = false := by simpa using hh
                  have cH : ∀ d os, Calls Try.prog 14 #[.agg #[.int .u32 z.e, .int .i64 z.h, .int .u64 z.u, .int .i64 z.m], .int .i64 z.h, .int .u64 t] (Sort.grow (redrawn wr d) os) fun e w'' => e = .returned (.bool false) ∧ ∃ p : Regrown, w'' = Sort.grow (redrawn wr p.d) p.os := fun d os => Calls.regrown_of (lease_Holds.calls _ _ _ _ _ _ _ _ (by rw [holds_eq]; exact congrArg some hh'))
                  have HH := Aside0.mk hh
                  clear hh hh'
                  go_upto_region 16 with fail
                  refine wp_region_quiet_below (by kernel_rfl) (by kernel_rfl) ?_
                  repeat (quiet_step (exact cH _ _))
                  refine wpQuiet_nil ?_
                  intro w5 ⟨p5, hp5⟩
                  have HB6 : Aside0 (Below w2.heap.size w2 w5) := ⟨by rw [hp5]; exact HB4.out.trans ((below_regrown wr _ _).mono HB4.out.size)⟩
                  clear hp5
                  go_wp2_with fail
                  go_roundg (seen2.length - (j + 1))
                  case measure => have := HK3.out; omega
                  case rel => exact ⟨j + 1, by go_num, by rw [HCN.out, if_neg HH.out]; go_num, ⟨rfl⟩, ⟨hj⟩, HB6⟩
              · obtain rfl : j = seen2.length := by have := HJ.out; omega
                rw [List.take_length]
                have hc1 := cnt_one x2 now2 t seen2 (i + 1) E5.out HT.out
                generalize cnt t seen2 = n at *
                have hk := HKK.out
                go_wp2_with fail
                go_roundg (2 - (k + 1))
                case measure => have := HK2.out; have := HKK.out; omega
                case rel => exact ⟨k + 1, by go_num, ⟨rfl⟩, ⟨by have := HKK.out; omega⟩, HB4⟩
          · obtain rfl : k = 2 := by have := HKL.out; omega
            go_wp2_with fail
            go_roundg (l.length - (i + 1))
            case measure => have := HK.out; omega
            case rel => exact ⟨i + 1, x2, now2, seen2, v2, by go_num, ⟨rfl⟩, ⟨hi⟩, ⟨by omega⟩, E5, ⟨(HB4.out.block b hb2).trans BR2.out⟩, ⟨HS2.out.below HB4.out⟩, ⟨HB3.out.trans (HB4.out.mono HB3.out.size)⟩⟩
      · go_wp2_with fail
        refine (known_calls _).mono ?_
        rintro e0 w2 ⟨rfl, hb2⟩
        go_wp2_with fail
        go_ret
        exact ⟨rfl, HB2.out.trans (hb2.mono HB2.out.size)⟩
    · go_wp2_with fail
      refine (known_calls _).mono ?_
      rintro e0 w2 ⟨rfl, hb2⟩
      go_wp2_with fail
      go_ret
      exact ⟨rfl, HB2.out.trans (hb2.mono HB2.out.size)⟩
end Go.Proofs.Ytmepidkffpmflaa.PLeaseAlone
