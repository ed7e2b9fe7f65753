/- The method asks of layer 7, over its callees: the lease, the clock and the leases that were seen, behind one ask, are those of plain functions (leaseF, nowF, seenF). Conditions: the answer of the callee at these arguments, and what the plain law knows of it. -/
import Derived.Test.YtmepidkffpmflaaA0
namespace Go.Proofs.Ytmepidkffpmflaa.PLeaseAlone
open Go.RowKit Go.Proofs.YtmepidkffpmflaaW.PrintWords Go.Proofs.YtmepidkffpmflaaW.PrintLast Go.Proofs.YtmepidkffpmflaaW.PrintMore
set_option linter.unusedVariables false
set_option linter.unusedSimpArgs false
set_option maxHeartbeats 8000000 in
set_option maxRecDepth 100000 in
theorem asks_a (k b base : Nat) (l : L4) (now : Int) (seen : List L4) (kind wait who len mode guard : Int) (v : Value) (w : World)
  (hb : w.heap[b]? = some (.cells #[.int .u32 l.e, .int .i64 l.h, .int .u64 l.u, .int .i64 l.m, .int .u64 now, v] 50 (0,0)))
  (hs : Seen w base v seen) (hbase : base ≤ b)
  (r : L4) (er : Int) (hA : askF k l (nowF now wait) kind (wrap64 (1 + wrap64 ((IntKind.u64.wrap who).tmod 2))) (IntKind.u64.wrap (1 + IntKind.u64.wrap (len.tmod 60))) (lastOf (wrap64 (1 + wrap64 ((IntKind.u64.wrap who).tmod 2))) seen 0) (wrap64 (1 + wrap64 ((IntKind.u64.wrap mode).tmod 2))) guard = some (r.e, r.h, r.u, r.m, er))
  (hz : er ≠ 0 → r = ⟨0, 0, 0, 0⟩) (hg : er = 0 → kind = 0 ∨ kind = 1 → r.e = IntKind.u32.wrap (l.e + 1) ∧ r.h = wrap64 (1 + wrap64 ((IntKind.u64.wrap who).tmod 2))) (hn : er = 0 → ¬ (kind = 0 ∨ kind = 1) → r.e = l.e ∧ r.h = l.h)
  (hlen0 : seen.length < 1000000)
  : Calls Try.prog 24 #[.pointer (some ⟨b, 0, none⟩), .agg #[.int .i64 kind, .int .u16 wait, .int .i64 who, .int .u16 len, .int .i64 mode], .int .u64 guard] w fun e w' => e = .returned (.bool true) ∧
      ∃ v', w'.heap[b]? = some (.cells #[.int .u32 (leaseF l r er).e, .int .i64 (leaseF l r er).h, .int .u64 (leaseF l r er).u, .int .i64 (leaseF l r er).m, .int .u64 (nowF now wait), v'] 50 (0,0)) ∧ Seen w' base v' (seenF kind seen r er) ∧ Below base w w' := by
  have BR := Aside0.mk hb
  have HA := Aside0.mk hA
  have HZ := Aside0.mk hz
  have HG := Aside0.mk hg
  have HN := Aside0.mk hn
  clear hA hz hg hn
  have HS := Aside0.mk hs
  have HBASE := Aside0.mk hbase
  clear hb hs hbase
  go_enter Try.func24, Try.ntmps24
  go_upto_region 1 with fail
  have hne : b < w.heap.size := blk_lt BR.out
  generalize hW : w.alloc (.cells #[.int .i64 kind, .int .u16 wait, .int .i64 who, .int .u16 len, .int .i64 mode] 54 (0,0)) = W
  have BR1 : Aside0 (W.heap[b]? = some (.cells #[.int .u32 l.e, .int .i64 l.h, .int .u64 l.u, .int .i64 l.m, .int .u64 now, v] 50 (0,0))) := ⟨by rw [← hW]; exact blk_alloc BR.out _⟩
  have BX1 : Aside0 (W.heap[w.heap.size]? = some (.cells #[.int .i64 kind, .int .u16 wait, .int .i64 who, .int .u16 len, .int .i64 mode] 54 (0,0))) := ⟨by rw [← hW]; exact blk_new w _⟩
  have HB1 : Aside0 (Below w.heap.size w W) := ⟨by rw [← hW]; exact below_alloc (Below.refl _ _) _⟩
  have HS1 : Aside0 (Seen W base v seen) := ⟨HS.out.below HB1.out⟩
  have HLT : Aside0 (∀ g, v.ownBlock = some g → g < w.heap.size) := ⟨HS.out.lt⟩
  generalize hbx : w.heap.size = bx at *
  clear hW
  obtain ⟨c0, c1, c2, c3, c4, c5⟩ := cells6 BR1.out
  obtain ⟨d0, d1, d2, d3, d4⟩ := cells5 BX1.out
  have f4 := blk_frozen BR1.out 4
  go_still_tail 12, (by kernel_rfl)
  change wpList _ _ _ _ _ W.drew
  go_upto_region 2 with fail
  clear c0 c1 c2 c3 c4 c5 d0 d1 d2 d3 d4 f4
  generalize hW2 : (W.setCell ⟨b, 4, none⟩ (.int .u64 (IntKind.u64.wrap (now + IntKind.u64.wrap (wait.tmod 40))))).drew = W2
  have BR2 : Aside0 (W2.heap[b]? = some (.cells #[.int .u32 l.e, .int .i64 l.h, .int .u64 l.u, .int .i64 l.m, .int .u64 (nowF now wait), v] 50 (0,0))) := ⟨by rw [← hW2]; refine blk_drew ?_; exact blk_put BR1.out 4 _ rfl⟩
  have BX2 : Aside0 (W2.heap[bx]? = some (.cells #[.int .i64 kind, .int .u16 wait, .int .i64 who, .int .u16 len, .int .i64 mode] 54 (0,0))) := ⟨by rw [← hW2]; refine blk_drew ?_; exact blk_far BX1.out (show bx ≠ b by omega) _⟩
  have HB2 : Aside0 (Below base w W2) := ⟨by rw [← hW2]; exact ((HB1.out.mono (by have := HBASE.out; omega)).setCell (p := ⟨b, 4, none⟩) HBASE.out _).drew⟩
  have HS2 : Aside0 (Seen W2 base v seen) := ⟨by
    rw [← hW2]
    exact (HS1.out.set2 BR1.out (by decide) 4 _).below (Below.refl _ _).drew⟩
  clear BR1 BX1 HB1 HS1 hW2
  obtain ⟨A, c, rfl, hc⟩ := HS2.out.form
  obtain ⟨c0, c1, c2, c3, c4, c5⟩ := cells6 BR2.out
  obtain ⟨d0, d1, d2, d3, d4⟩ := cells5 BX2.out
  go_wp2_with fail
  generalize hwho : wrap64 (1 + wrap64 ((IntKind.u64.wrap who).tmod 2)) = who1 at HA HG ⊢
  generalize hlen : IntKind.u64.wrap (1 + IntKind.u64.wrap (len.tmod 60)) = len1 at HA ⊢
  have hnl : seen.length ≤ 9223372036854775807 := by omega
  go_loopg [9, 10] seen.length (fun gk v9 v10 w' => ∃ (i : Nat) (o : Int), v9 = .int .u32 o ∧ v10 = .int .i64 i ∧ Aside0 (gk = seen.length - i) ∧ Aside0 (i ≤ seen.length) ∧ Aside0 (lastOf who1 (seen.drop i) o = lastOf who1 seen 0) ∧ w' = W2)
  case atStart => exact ⟨0, 0, rfl, rfl, ⟨rfl⟩, ⟨Nat.zero_le _⟩, ⟨rfl⟩, rfl⟩
  case round =>
    as_aux_lemma =>
      obtain ⟨i, o, rfl, rfl, HK, HI, HO, rfl⟩ := hrel
      by_cases hi : i < seen.length
      · as_aux_lemma =>
          obtain ⟨g, rfl, e0, e1, e2, e3, hf⟩ := HS2.out.at i hi
          by_cases hh : seen[i].h = who1
          · as_aux_lemma =>
              go_wp2_with fail
              go_roundg (seen.length - (i + 1))
              case measure => have := HK.out; omega
              case rel => exact ⟨i + 1, seen[i].e, rfl, by go_num, ⟨rfl⟩, ⟨hi⟩, ⟨by rw [← HO.out, lastOf_drop who1 o seen i hi, if_pos hh]⟩, rfl⟩
          · as_aux_lemma =>
              go_wp2_with fail
              go_roundg (seen.length - (i + 1))
              case measure => have := HK.out; omega
              case rel => exact ⟨i + 1, o, rfl, by go_num, ⟨rfl⟩, ⟨hi⟩, ⟨by rw [← HO.out, lastOf_drop who1 o seen i hi, if_neg hh]⟩, rfl⟩
      · as_aux_lemma =>
          obtain rfl : i = seen.length := by have := HI.out; omega
          have hown : o = lastOf who1 seen 0 := by have := HO.out; rwa [List.drop_length] at this
          clear HO HI HK hi
          go_upto_region 12 with fail
          generalize hW3 : wr.alloc (.cells #[.int .u32 l.e, .int .i64 l.h, .int .u64 l.u, .int .i64 l.m] 25 (0, 0)) = W3
          have hbxl := blk_lt BX2.out
          have BR3 : Aside0 (W3.heap[b]? = some (.cells #[.int .u32 l.e, .int .i64 l.h, .int .u64 l.u, .int .i64 l.m, .int .u64 (nowF now wait), .slice A seen.length c] 50 (0,0))) := ⟨by rw [← hW3]; exact blk_alloc BR2.out _⟩
          have BX3 : Aside0 (W3.heap[bx]? = some (.cells #[.int .i64 kind, .int .u16 wait, .int .i64 who, .int .u16 len, .int .i64 mode] 54 (0,0))) := ⟨by rw [← hW3]; exact blk_alloc BX2.out _⟩
          have BA3 : Aside0 (W3.heap[wr.heap.size]? = some (.cells #[.int .u32 l.e, .int .i64 l.h, .int .u64 l.u, .int .i64 l.m] 25 (0,0))) := ⟨by rw [← hW3]; exact blk_new wr _⟩
          have HB3 : Aside0 (Below base w W3) := ⟨by rw [← hW3]; exact HB2.out.alloc (by have := HBASE.out; omega) _⟩
          have HS3 : Aside0 (Seen W3 base (.slice A seen.length c) seen) := ⟨by rw [← hW3]; exact HS2.out.below (below_alloc (Below.refl _ _) _)⟩
          have hbab : bx < wr.heap.size := hbxl
          generalize hba : wr.heap.size = ba at *
          clear hW3 BR2 BX2 HB2 HS2 c0 c1 c2 c3 c4 c5 d0 d1 d2 d3 d4 hba hbxl
          obtain ⟨c0, c1, c2, c3, c4, c5⟩ := cells6 BR3.out
          obtain ⟨d0, d1, d2, d3, d4⟩ := cells5 BX3.out
          obtain ⟨g0, g1, g2, g3⟩ := cells4 BA3.out
          go_upto_block 2 with fail
          subst hown
          generalize hown : lastOf who1 seen 0 = own at *
          have HAB : Aside0 ((Value.slice A seen.length c).ownBlock ≠ some ba) := ⟨fun e => by have := HLT.out ba e; omega⟩
          go_cut [1, 12] from 14 to 214 (fun v1 v12 wc => v12 = .int .i64 er ∧ Aside0 (wc.heap[b]? = some (.cells #[.int .u32 l.e, .int .i64 l.h, .int .u64 l.u, .int .i64 l.m, .int .u64 (nowF now wait), .slice A seen.length c] 50 (0,0))) ∧ Aside0 (wc.heap[bx]? = some (.cells #[.int .i64 kind, .int .u16 wait, .int .i64 who, .int .u16 len, .int .i64 mode] 54 (0,0))) ∧ Aside0 (wc.heap[ba]? = some (.cells #[.int .u32 r.e, .int .i64 r.h, .int .u64 r.u, .int .i64 r.m] 25 (0,0))) ∧ Aside0 (Below base w wc) ∧ Aside0 (Seen wc base (.slice A seen.length c) seen))
          case first =>
            as_aux_lemma =>
              have H := HA.out
              unfold askF at H
              clear HA
              have hbs : ba < W3.heap.size := blk_lt BA3.out
              have hb3 : b < W3.heap.size := by omega
              have hx3 : bx < W3.heap.size := by omega
              have k0 := cell_regrown c0
              have k1 := cell_regrown c1
              have k2 := cell_regrown c2
              have k3 := cell_regrown c3
              have k4 := cell_regrown c4
              have q4 := cell_regrown d4
              by_cases hk0 : kind = 0
              · as_aux_lemma =>
                  rw [if_pos (Or.inl hk0)] at H
                  go_upto_region 15 with fail
                  have cG : ∀ d os, Calls Try.prog 17 #[.agg #[.int .u32 l.e, .int .i64 l.h, .int .u64 l.u, .int .i64 l.m], .int .u64 (nowF now wait), .int .i64 who1, .int .u64 len1, .int .u64 guard] (Sort.grow (redrawn W3 d) os) fun e w'' => e = .returned (.tuple #[.agg #[.int .u32 r.e, .int .i64 r.h, .int .u64 r.u, .int .i64 r.m], .int .i64 er]) ∧ ∃ p : Regrown, w'' = Sort.grow (redrawn W3 p.d) p.os := fun d os => Calls.regrown_of (lease_Grant.calls k _ _ _ _ _ _ _ _ _ _ _ _ _ _ H)
                  refine wp_region_plan_below 12 3 (by kernel_rfl) (by kernel_rfl) (fun _ _ _ _ _ h => h) ?_
                  simp only [List.take_succ_cons, List.take_zero, List.drop_succ_cons, List.drop_zero]
                  repeat (quiet_step (exact cG _ _))
                  refine wpQuiet_nil ?_
                  intro w4 hb4
                  repeat (refine wpSure_step (fun K hK => ?_); unfold Oper.sure; go_simp; refine hK _ ?_; clear hK K)
                  refine wpSure_nil ?_
                  have BA4 : Aside0 (w4.heap[ba]? = some (.cells #[.int .u32 l.e, .int .i64 l.h, .int .u64 l.u, .int .i64 l.m] 25 (0,0))) := ⟨(hb4.block ba hbs).trans BA3.out⟩
                  obtain ⟨h0, h1, h2, h3⟩ := cells4 BA4.out
                  have hf0 := blk_frozen BA4.out 0
                  have hf1 := blk_frozen BA4.out 1
                  have hf2 := blk_frozen BA4.out 2
                  have hf3 := blk_frozen BA4.out 3
                  go_wp2_with fail
                  go_meet
                  case rel =>
                    obtain ⟨p1, p2, p3, p4, p5⟩ := put4 (r := r) hb4 BR3.out BX3.out BA3.out HB3.out HS3.out (by omega) (by omega) (by have := HBASE.out; omega) HAB.out
                    exact ⟨rfl, ⟨p1⟩, ⟨p2⟩, ⟨p3⟩, ⟨p4⟩, ⟨p5⟩⟩
              · by_cases hk1 : kind = 1
                · as_aux_lemma =>
                    rw [if_pos (Or.inr hk1)] at H
                    go_upto_region 15 with fail
                    have cG : ∀ d os, Calls Try.prog 17 #[.agg #[.int .u32 l.e, .int .i64 l.h, .int .u64 l.u, .int .i64 l.m], .int .u64 (nowF now wait), .int .i64 who1, .int .u64 len1, .int .u64 guard] (Sort.grow (redrawn W3 d) os) fun e w'' => e = .returned (.tuple #[.agg #[.int .u32 r.e, .int .i64 r.h, .int .u64 r.u, .int .i64 r.m], .int .i64 er]) ∧ ∃ p : Regrown, w'' = Sort.grow (redrawn W3 p.d) p.os := fun d os => Calls.regrown_of (lease_Grant.calls k _ _ _ _ _ _ _ _ _ _ _ _ _ _ H)
                    refine wp_region_plan_below 12 3 (by kernel_rfl) (by kernel_rfl) (fun _ _ _ _ _ h => h) ?_
                    simp only [List.take_succ_cons, List.take_zero, List.drop_succ_cons, List.drop_zero]
                    repeat (quiet_step (exact cG _ _))
                    refine wpQuiet_nil ?_
                    intro w4 hb4
                    repeat (refine wpSure_step (fun K hK => ?_); unfold Oper.sure; go_simp; refine hK _ ?_; clear hK K)
                    refine wpSure_nil ?_
                    have BA4 : Aside0 (w4.heap[ba]? = some (.cells #[.int .u32 l.e, .int .i64 l.h, .int .u64 l.u, .int .i64 l.m] 25 (0,0))) := ⟨(hb4.block ba hbs).trans BA3.out⟩
                    obtain ⟨h0, h1, h2, h3⟩ := cells4 BA4.out
                    have hf0 := blk_frozen BA4.out 0
                    have hf1 := blk_frozen BA4.out 1
                    have hf2 := blk_frozen BA4.out 2
                    have hf3 := blk_frozen BA4.out 3
                    go_wp2_with fail
                    go_meet
                    case rel =>
                      obtain ⟨p1, p2, p3, p4, p5⟩ := put4 (r := r) hb4 BR3.out BX3.out BA3.out HB3.out HS3.out (by omega) (by omega) (by have := HBASE.out; omega) HAB.out
                      exact ⟨rfl, ⟨p1⟩, ⟨p2⟩, ⟨p3⟩, ⟨p4⟩, ⟨p5⟩⟩
                · as_aux_lemma =>
                    rw [if_neg (by omega)] at H
                    by_cases hk2 : kind = 2
                    · as_aux_lemma =>
                        rw [if_pos (Or.inl hk2)] at H
                        go_upto_region 18 with fail
                        have cG : ∀ d os, Calls Try.prog 20 #[.agg #[.int .u32 l.e, .int .i64 l.h, .int .u64 l.u, .int .i64 l.m], .int .u64 (nowF now wait), .int .i64 who1, .int .u32 own, .int .u64 len1] (Sort.grow (redrawn W3 d) os) fun e w'' => e = .returned (.tuple #[.agg #[.int .u32 r.e, .int .i64 r.h, .int .u64 r.u, .int .i64 r.m], .int .i64 er]) ∧ ∃ p : Regrown, w'' = Sort.grow (redrawn W3 p.d) p.os := fun d os => Calls.regrown_of (lease_Renew.calls k _ _ _ _ _ _ _ _ _ _ _ _ _ _ H)
                        refine wp_region_plan_below 12 3 (by kernel_rfl) (by kernel_rfl) (fun _ _ _ _ _ h => h) ?_
                        simp only [List.take_succ_cons, List.take_zero, List.drop_succ_cons, List.drop_zero]
                        repeat (quiet_step (exact cG _ _))
                        refine wpQuiet_nil ?_
                        intro w4 hb4
                        repeat (refine wpSure_step (fun K hK => ?_); unfold Oper.sure; go_simp; refine hK _ ?_; clear hK K)
                        refine wpSure_nil ?_
                        have BA4 : Aside0 (w4.heap[ba]? = some (.cells #[.int .u32 l.e, .int .i64 l.h, .int .u64 l.u, .int .i64 l.m] 25 (0,0))) := ⟨(hb4.block ba hbs).trans BA3.out⟩
                        obtain ⟨h0, h1, h2, h3⟩ := cells4 BA4.out
                        have hf0 := blk_frozen BA4.out 0
                        have hf1 := blk_frozen BA4.out 1
                        have hf2 := blk_frozen BA4.out 2
                        have hf3 := blk_frozen BA4.out 3
                        go_wp2_with fail
                        go_meet
                        case rel =>
                          obtain ⟨p1, p2, p3, p4, p5⟩ := put4 (r := r) hb4 BR3.out BX3.out BA3.out HB3.out HS3.out (by omega) (by omega) (by have := HBASE.out; omega) HAB.out
                          exact ⟨rfl, ⟨p1⟩, ⟨p2⟩, ⟨p3⟩, ⟨p4⟩, ⟨p5⟩⟩
                    · by_cases hk3 : kind = 3
                      · as_aux_lemma =>
                          rw [if_pos (Or.inr hk3)] at H
                          go_upto_region 18 with fail
                          have cG : ∀ d os, Calls Try.prog 20 #[.agg #[.int .u32 l.e, .int .i64 l.h, .int .u64 l.u, .int .i64 l.m], .int .u64 (nowF now wait), .int .i64 who1, .int .u32 own, .int .u64 len1] (Sort.grow (redrawn W3 d) os) fun e w'' => e = .returned (.tuple #[.agg #[.int .u32 r.e, .int .i64 r.h, .int .u64 r.u, .int .i64 r.m], .int .i64 er]) ∧ ∃ p : Regrown, w'' = Sort.grow (redrawn W3 p.d) p.os := fun d os => Calls.regrown_of (lease_Renew.calls k _ _ _ _ _ _ _ _ _ _ _ _ _ _ H)
                          refine wp_region_plan_below 12 3 (by kernel_rfl) (by kernel_rfl) (fun _ _ _ _ _ h => h) ?_
                          simp only [List.take_succ_cons, List.take_zero, List.drop_succ_cons, List.drop_zero]
                          repeat (quiet_step (exact cG _ _))
                          refine wpQuiet_nil ?_
                          intro w4 hb4
                          repeat (refine wpSure_step (fun K hK => ?_); unfold Oper.sure; go_simp; refine hK _ ?_; clear hK K)
                          refine wpSure_nil ?_
                          have BA4 : Aside0 (w4.heap[ba]? = some (.cells #[.int .u32 l.e, .int .i64 l.h, .int .u64 l.u, .int .i64 l.m] 25 (0,0))) := ⟨(hb4.block ba hbs).trans BA3.out⟩
                          obtain ⟨h0, h1, h2, h3⟩ := cells4 BA4.out
                          have hf0 := blk_frozen BA4.out 0
                          have hf1 := blk_frozen BA4.out 1
                          have hf2 := blk_frozen BA4.out 2
                          have hf3 := blk_frozen BA4.out 3
                          go_wp2_with fail
                          go_meet
                          case rel =>
                            obtain ⟨p1, p2, p3, p4, p5⟩ := put4 (r := r) hb4 BR3.out BX3.out BA3.out HB3.out HS3.out (by omega) (by omega) (by have := HBASE.out; omega) HAB.out
                            exact ⟨rfl, ⟨p1⟩, ⟨p2⟩, ⟨p3⟩, ⟨p4⟩, ⟨p5⟩⟩
                      · as_aux_lemma =>
                          rw [if_neg (by omega)] at H
                          by_cases hk4 : kind = 4
                          · as_aux_lemma =>
                              rw [if_pos hk4] at H
                              go_upto_region 20 with fail
                              have cG : ∀ d os, Calls Try.prog 22 #[.agg #[.int .u32 l.e, .int .i64 l.h, .int .u64 l.u, .int .i64 l.m], .int .u64 (nowF now wait), .int .i64 who1, .int .u32 own, .int .i64 (IntKind.i64.wrap (1 + IntKind.i64.wrap ((IntKind.u64.wrap mode).tmod 2)))] (Sort.grow (redrawn W3 d) os) fun e w'' => e = .returned (.tuple #[.agg #[.int .u32 r.e, .int .i64 r.h, .int .u64 r.u, .int .i64 r.m], .int .i64 er]) ∧ ∃ p : Regrown, w'' = Sort.grow (redrawn W3 p.d) p.os := fun d os => by
                                simp only [i64_w]
                                exact Calls.regrown_of (lease_Turn.calls k _ _ _ _ _ _ _ _ _ _ _ _ _ _ H)
                              refine wp_region_plan_below 17 3 (by kernel_rfl) (by kernel_rfl) (fun _ _ _ _ _ h => h) ?_
                              simp only [List.take_succ_cons, List.take_zero, List.drop_succ_cons, List.drop_zero]
                              repeat (quiet_step (exact cG _ _))
                              refine wpQuiet_nil ?_
                              intro w4 hb4
                              repeat (refine wpSure_step (fun K hK => ?_); unfold Oper.sure; go_simp; refine hK _ ?_; clear hK K)
                              refine wpSure_nil ?_
                              have BA4 : Aside0 (w4.heap[ba]? = some (.cells #[.int .u32 l.e, .int .i64 l.h, .int .u64 l.u, .int .i64 l.m] 25 (0,0))) := ⟨(hb4.block ba hbs).trans BA3.out⟩
                              obtain ⟨h0, h1, h2, h3⟩ := cells4 BA4.out
                              have hf0 := blk_frozen BA4.out 0
                              have hf1 := blk_frozen BA4.out 1
                              have hf2 := blk_frozen BA4.out 2
                              have hf3 := blk_frozen BA4.out 3
                              go_wp2_with fail
                              go_meet
                              case rel =>
                                obtain ⟨p1, p2, p3, p4, p5⟩ := put4 (r := r) hb4 BR3.out BX3.out BA3.out HB3.out HS3.out (by omega) (by omega) (by have := HBASE.out; omega) HAB.out
                                exact ⟨rfl, ⟨p1⟩, ⟨p2⟩, ⟨p3⟩, ⟨p4⟩, ⟨p5⟩⟩
                          · as_aux_lemma =>
                              rw [if_neg hk4] at H
                              injection H with H
                              injection H with e1 H
                              injection H with e2 H
                              injection H with e3 H
                              injection H with e4 e5
                              go_wp2_with fail
                              go_meet
                              case rel => exact ⟨by rw [e5], ⟨BR3.out⟩, ⟨BX3.out⟩, ⟨by rw [← e1, ← e2, ← e3, ← e4]; exact BA3.out⟩, ⟨HB3.out⟩, ⟨HS3.out⟩⟩
          case rest =>
            as_aux_lemma =>
              clear HA HLT
              obtain ⟨rfl, BR5, BX5, BA5, HB5, HS5⟩ := hcut
              clear BR3 BX3 BA3 HB3 HS3 c0 c1 c2 c3 c4 c5 d0 d1 d2 d3 d4 g0 g1 g2 g3
              obtain ⟨c0, c1, c2, c3, c4, c5⟩ := cells6 BR5.out
              obtain ⟨d0, d1, d2, d3, d4⟩ := cells5 BX5.out
              obtain ⟨g0, g1, g2, g3⟩ := cells4 BA5.out
              by_cases he : er = 0
              · as_aux_lemma =>
                  subst he
                  obtain ⟨re, rh, ru, rm⟩ := r
                  clear hwho hlen hown hbx
                  go_upto_region 23 with fail
                  go_cut [1, 140] from 14 to 214 (fun v1 v140 wx => v140 = .bool (decide (kind = 0 ∨ kind = 1)) ∧ wx = wc)
                  case first =>
                    as_aux_lemma =>
                      by_cases hk1 : kind ≤ 1
                      · by_cases hk0 : kind ≥ 0
                        · have e1 : decide (kind = 0 ∨ kind = 1) = true := decide_eq_true (by omega)
                          go_wp2_with fail
                          go_meet
                          case rel => exact ⟨by rw [e1], rfl⟩
                        · have e1 : decide (kind = 0 ∨ kind = 1) = false := decide_eq_false (by omega)
                          go_wp2_with fail
                          go_meet
                          case rel => exact ⟨by rw [e1], rfl⟩
                      · have e1 : decide (kind = 0 ∨ kind = 1) = false := decide_eq_false (by omega)
                        go_wp2_with fail
                        go_meet
                        case rel => exact ⟨by rw [e1], rfl⟩
                  case rest =>
                    as_aux_lemma =>
                      obtain ⟨rfl, rfl⟩ := hcut
                      generalize hkb : decide (kind = 0 ∨ kind = 1) = kb
                      go_upto_if 140 with fail
                      go_cut [1, 12] from 14 to 214 (fun v1 v12 wd => ∃ (v6 : Value) (s6 : List L4), (s6 = if kind = 0 ∨ kind = 1 then seen ++ [⟨re, rh, ru, rm⟩] else seen) ∧ Aside0 (wd.heap[b]? = some (.cells #[.int .u32 l.e, .int .i64 l.h, .int .u64 l.u, .int .i64 l.m, .int .u64 (nowF now wait), v6] 50 (0,0))) ∧ Aside0 (wd.heap[ba]? = some (.cells #[.int .u32 re, .int .i64 rh, .int .u64 ru, .int .i64 rm] 25 (0,0))) ∧ Aside0 (Below base w wd) ∧ Aside0 (Seen wd base v6 s6) ∧ Aside0 (v6.ownBlock ≠ some ba))
                      case first =>
                        as_aux_lemma =>
                          by_cases hk : kind = 0 ∨ kind = 1
                          · as_aux_lemma =>
                              obtain ⟨h1, h2⟩ := HG.out rfl hk
                              have h1 : re = IntKind.u32.wrap (l.e + 1) := h1
                              have h2 : rh = who1 := h2
                              have q1 : (re != IntKind.u32.wrap (l.e + 1)) = false := bne_eq_false_iff_eq.mpr h1
                              have q2 : (rh != who1) = false := bne_eq_false_iff_eq.mpr h2
                              have HK := Aside0.mk hk
                              obtain rfl : kb = true := by rw [← hkb]; exact decide_eq_true hk
                              clear h1 h2 hk HG HN HZ hkb
                              go_upto_region 24 with fail
                              go_quiet (fail)
                              go_upto_region 26 with fail
                              have hbw : b < wc.heap.size := blk_lt BR5.out
                              have haw : ba < wc.heap.size := blk_lt BA5.out
                              refine wp_region_plan_held 10 (fun w' => w'.cell? ⟨b, 5, none⟩ = some (.slice A seen.length c) ∧ w'.cell? ⟨ba, 0, none⟩ = some (.int .u32 re) ∧ w'.cell? ⟨ba, 1, none⟩ = some (.int .i64 rh) ∧ w'.cell? ⟨ba, 2, none⟩ = some (.int .u64 ru) ∧ w'.cell? ⟨ba, 3, none⟩ = some (.int .i64 rm))
                                [(1, 0), (1, 1), (1, 2), (1, 3), (0, 4), (0, 5), (2, 6), (2, 7), (1, 8), (1, 9), (2, 10)] (by kernel_rfl) (by kernel_rfl) (by kernel_rfl) (by kernel_rfl) (fun _ _ _ _ _ h => h) ⟨c5, g0, g1, g2, g3⟩ ?_
                              simp only [tagged, List.filterMap_cons, List.filterMap_nil, List.getElem?_toArray, List.getElem?_cons_succ, List.getElem?_cons_zero, Option.map_some]
                              iterate 4 (refine wpHeld_sure (fun K hK => ?_); go_simp; refine hK _ ?_; clear hK K)
                              refine wpHeld_take (fun K hK => ?_)
                              rw [if_pos (by rfl)]
                              apply Exists.intro
                              refine ⟨fun w' hw' => ?_, hK _ ?_⟩
                              · obtain ⟨s0, s1, s2, s3, s4⟩ := hw'
                                go_simp
                                rfl
                              clear hK K
                              refine wpHeld_take (fun K hK => ?_)
                              rw [if_pos (by rfl)]
                              apply Exists.intro
                              refine ⟨fun w' hw' => ?_, hK _ ?_⟩
                              · obtain ⟨s0, s1, s2, s3, s4⟩ := hw'
                                go_simp
                                rfl
                              clear hK K
                              refine wpHeld_next (fun K hK => ?_)
                              go_simp
                              generalize hW6 : ((wc.drewN (nq + 1)).alloc (.cells #[.int .u32 re, .int .i64 rh, .int .u64 ru, .int .i64 rm] 25 (0, 0))) = W6
                              have BR6 : Aside0 (W6.heap[b]? = some (.cells #[.int .u32 l.e, .int .i64 l.h, .int .u64 l.u, .int .i64 l.m, .int .u64 (nowF now wait), .slice A seen.length c] 50 (0,0))) := ⟨by rw [← hW6]; refine blk_alloc ?_ _; exact BR5.out⟩
                              have BA6 : Aside0 (W6.heap[ba]? = some (.cells #[.int .u32 re, .int .i64 rh, .int .u64 ru, .int .i64 rm] 25 (0,0))) := ⟨by rw [← hW6]; refine blk_alloc ?_ _; exact BA5.out⟩
                              have BN6 : Aside0 (W6.heap[wc.heap.size]? = some (.cells #[.int .u32 re, .int .i64 rh, .int .u64 ru, .int .i64 rm] 25 (0,0))) := ⟨by rw [← hW6]; exact blk_new (wc.drewN (nq + 1)) _⟩
                              have HB6 : Aside0 (Below base w W6) := ⟨by rw [← hW6]; exact (pw_below_drewN HB5.out _).alloc (by have := HBASE.out; show base ≤ wc.heap.size; omega) _⟩
                              have HS6 : Aside0 (Seen W6 base (.slice A seen.length c) seen) := ⟨by rw [← hW6]; exact (HS5.out.below (pw_below_drewN (Below.refl _ _) (nq + 1))).below (below_alloc (Below.refl _ _) _)⟩
                              have hsz : W6.heap.size = wc.heap.size + 1 := by rw [← hW6]; simp [World.alloc, World.drewN]
                              clear hW6 HB5 HS5 BR5 BA5 BX5 c0 c1 c2 c3 c4 c5 d0 d1 d2 d3 d4 g0 g1 g2 g3
                              obtain ⟨c0, c1, c2, c3, c4, c5⟩ := cells6 BR6.out
                              obtain ⟨g0, g1, g2, g3⟩ := cells4 BA6.out
                              refine hK _ _ (fun _ => ⟨c5, g0, g1, g2, g3⟩) ?_
                              clear hK K
                              refine wpHeld_next (fun K hK => ?_)
                              obtain ⟨i0, hi0, hz0, hz1, hz2⟩ := info_parts info25
                              refine step_append_lies W6 (by rfl) _ _ _ (by rfl) base 25 i0 _ 4 32 Try.underlying48 hi0 hz0 hz1 hz2 rfl (by omega) (.slice A seen.length c) seen.length (flat seen) (by rfl) HS6.out
                                ⟨wc.heap.size, 0, none⟩ 1 1 [.int .u32 re, .int .i64 rh, .int .u64 ru, .int .i64 rm] (by rfl) (by rfl) (World.news_of_block BN6.out) (by simp [Value.oneCell'])
                                (by omega) (by unfold maxLen; omega) (by omega) (by have := HBASE.out; omega) (wc.heap.size + 1) hsz ?_
                              intro gg cap W7 hown7 hgrow7 hat7 hlt7
                              have hlb : b < W6.heap.size := blk_lt BR6.out
                              have hla : ba < W6.heap.size := blk_lt BA6.out
                              have hnb : some b ≠ (Value.slice A seen.length c).ownBlock := fun e => (HS6.out.ne BR6.out (by decide)) e.symm
                              have hna : some ba ≠ (Value.slice A seen.length c).ownBlock := fun e => HAB.out e.symm
                              have BR7 : Aside0 (W7.heap[b]? = some (.cells #[.int .u32 l.e, .int .i64 l.h, .int .u64 l.u, .int .i64 l.m, .int .u64 (nowF now wait), .slice A seen.length c] 50 (0,0))) := ⟨(hgrow7.block b hlb hnb).trans BR6.out⟩
                              have BA7 : Aside0 (W7.heap[ba]? = some (.cells #[.int .u32 re, .int .i64 rh, .int .u64 ru, .int .i64 rm] 25 (0,0))) := ⟨(hgrow7.block ba hla hna).trans BA6.out⟩
                              have HB7 : Aside0 (Below base w W7) := ⟨HB6.out.grown hgrow7 (by have := HBASE.out; omega) (fun k hk => by
                                obtain ⟨_, h2⟩ := HS6.out
                                rcases h2 with h2 | ⟨g, cap', cur, he, hg, _⟩
                                · rw [h2.1] at hk; simp [Value.ownBlock] at hk
                                · rw [he] at hk; have : g = k := by simpa [Value.ownBlock] using hk
                                  omega)⟩
                              have HS7 : Aside0 (Seen W7 base (.slice (some ⟨gg, 0, none⟩) (seen.length + 1) cap) (seen ++ [⟨re, rh, ru, rm⟩])) := ⟨by
                                unfold Seen
                                rw [flat_append, List.length_append]
                                exact hown7⟩
                              have HG7 : Aside0 (gg ≠ ba) := ⟨fun e => by
                                rcases hat7 with h | h
                                · exact HAB.out (by rw [h, e])
                                · omega⟩
                              clear hown7 hgrow7 hat7 hlt7 c0 c1 c2 c3 c4 c5 g0 g1 g2 g3 BR6 BA6 BN6 HB6 HS6 hnb hna
                              obtain ⟨c0, c1, c2, c3, c4, c5⟩ := cells6 BR7.out
                              obtain ⟨g0, g1, g2, g3⟩ := cells4 BA7.out
                              have f5 := blk_frozen BR7.out 5
                              refine hK _ _ (fun _ => ⟨c5, g0, g1, g2, g3⟩) ?_
                              clear hK K
                              iterate 2 (refine wpHeld_sure (fun K hK => ?_); go_simp; refine hK _ ?_; clear hK K)
                              refine wpHeld_next (fun K hK => ?_)
                              go_simp
                              refine hK _ _ (fun h => absurd rfl h) ?_
                              clear hK K
                              refine wpHeld_nil ?_
                              go_wp2_with fail
                              go_meet
                              case rel =>
                                refine ⟨_, _, (if_pos HK.out).symm, ⟨blk_put BR7.out 5 _ rfl⟩, ⟨blk_far BA7.out (show ba ≠ b by omega) _⟩, ⟨HB7.out.setCell (p := ⟨b, 5, none⟩) HBASE.out _⟩, ⟨HS7.out.set2 BR7.out (by decide) 5 _⟩, ⟨fun e => HG7.out (by simpa [Value.ownBlock] using e)⟩⟩
                          · as_aux_lemma =>
                              obtain ⟨h1, h2⟩ := HN.out rfl hk
                              have h1 : re = l.e := h1
                              have h2 : rh = l.h := h2
                              have q1 : (re != l.e) = false := bne_eq_false_iff_eq.mpr h1
                              have q2 : (rh != l.h) = false := bne_eq_false_iff_eq.mpr h2
                              have HK := Aside0.mk hk
                              obtain rfl : kb = false := by rw [← hkb]; exact decide_eq_false hk
                              clear h1 h2 hk HG HN HZ hkb
                              go_upto_region 27 with fail
                              go_quiet (fail)
                              go_wp2_with fail
                              go_meet
                              case rel =>
                                refine ⟨.slice A seen.length c, seen, (if_neg HK.out).symm, ⟨blk_drewN BR5.out _⟩, ⟨blk_drewN BA5.out _⟩, ⟨pw_below_drewN HB5.out _⟩, ⟨HS5.out.below (pw_below_drewN (Below.refl _ _) _)⟩, HAB⟩
                      case rest =>
                        as_aux_lemma =>
                          obtain ⟨v6, s6, hs6, BR8, BA8, HB8, HS8, HA8⟩ := hcut
                          obtain ⟨A6, c6, rfl, hc6⟩ := HS8.out.form
                          clear BR5 BX5 BA5 HB5 HS5 c0 c1 c2 c3 c4 c5 d0 d1 d2 d3 d4 g0 g1 g2 g3
                          obtain ⟨c0, c1, c2, c3, c4, c5⟩ := cells6 BR8.out
                          obtain ⟨g0, g1, g2, g3⟩ := cells4 BA8.out
                          have f0 := blk_frozen BR8.out 0
                          have f1 := blk_frozen BR8.out 1
                          have f2 := blk_frozen BR8.out 2
                          have f3 := blk_frozen BR8.out 3
                          go_wp2_with fail
                          generalize hW9 : ((((wc.setCell ⟨b, 0, none⟩ (.int .u32 re)).setCell ⟨b, 1, none⟩ (.int .i64 rh)).setCell ⟨b, 2, none⟩ (.int .u64 ru)).setCell ⟨b, 3, none⟩ (.int .i64 rm)) = W9
                          have BR9 : Aside0 (W9.heap[b]? = some (.cells #[.int .u32 re, .int .i64 rh, .int .u64 ru, .int .i64 rm, .int .u64 (nowF now wait), .slice A6 s6.length c6] 50 (0,0))) := ⟨by
                            rw [← hW9]
                            exact blk_put (cs := #[.int .u32 re, .int .i64 rh, .int .u64 ru, .int .i64 l.m, .int .u64 (nowF now wait), .slice A6 s6.length c6]) (blk_put (cs := #[.int .u32 re, .int .i64 rh, .int .u64 l.u, .int .i64 l.m, .int .u64 (nowF now wait), .slice A6 s6.length c6]) (blk_put (cs := #[.int .u32 re, .int .i64 l.h, .int .u64 l.u, .int .i64 l.m, .int .u64 (nowF now wait), .slice A6 s6.length c6]) (blk_put BR8.out 0 _ rfl) 1 _ rfl) 2 _ rfl) 3 _ rfl⟩
                          have BA9 : Aside0 (W9.heap[ba]? = some (.cells #[.int .u32 re, .int .i64 rh, .int .u64 ru, .int .i64 rm] 25 (0,0))) := ⟨by
                            rw [← hW9]
                            exact blk_far (blk_far (blk_far (blk_far BA8.out (show ba ≠ b by omega) _) (show ba ≠ b by omega) _) (show ba ≠ b by omega) _) (show ba ≠ b by omega) _⟩
                          have HB9 : Aside0 (Below base w W9) := ⟨by
                            rw [← hW9]
                            exact (((HB8.out.setCell (p := ⟨b, 0, none⟩) HBASE.out _).setCell (p := ⟨b, 1, none⟩) HBASE.out _).setCell (p := ⟨b, 2, none⟩) HBASE.out _).setCell (p := ⟨b, 3, none⟩) HBASE.out _⟩
                          have HS9 : Aside0 (Seen W9 base (.slice A6 s6.length c6) s6) := ⟨by
                            have hne8 := HS8.out.ne BR8.out (by decide)
                            rw [← hW9]
                            exact (((HS8.out.set (p := ⟨b, 0, none⟩) hne8).set (p := ⟨b, 1, none⟩) hne8).set (p := ⟨b, 2, none⟩) hne8).set (p := ⟨b, 3, none⟩) hne8⟩
                          clear hW9 BR8 BA8 HB8 HS8 c0 c1 c2 c3 c4 c5 g0 g1 g2 g3 f0 f1 f2 f3
                          have hs6l : s6.length ≤ 9223372036854775807 := by
                            rw [hs6]
                            split
                            · rw [List.length_append]; show seen.length + 1 ≤ _; omega
                            · omega
                          have HS6E := Aside0.mk hs6
                          clear hs6
                          go_loopg [13] s6.length (fun gk v13 w' => ∃ (i : Nat), v13 = .int .i64 i ∧ Aside0 (gk = s6.length - i) ∧ Aside0 (i ≤ s6.length) ∧ Aside0 (w'.heap[b]? = some (.cells #[.int .u32 re, .int .i64 rh, .int .u64 ru, .int .i64 rm, .int .u64 (nowF now wait), .slice A6 s6.length c6] 50 (0,0))) ∧ Aside0 (w'.heap[ba]? = some (.cells #[.int .u32 re, .int .i64 rh, .int .u64 ru, .int .i64 rm] 25 (0,0))) ∧ Aside0 (Below base w w') ∧ Aside0 (Seen w' base (.slice A6 s6.length c6) (updF ⟨re, rh, ru, rm⟩ (s6.take i) ++ s6.drop i)))
                          case atStart => exact ⟨0, rfl, ⟨rfl⟩, ⟨Nat.zero_le _⟩, BR9, BA9, HB9, HS9⟩
                          case round =>
                            as_aux_lemma =>
                              clear BR9 BA9 HB9 HS9
                              obtain ⟨i, rfl, HK, HI, BR9, BA9, HB9, HS9⟩ := hrel
                              obtain ⟨c0, c1, c2, c3, c4, c5⟩ := cells6 BR9.out
                              by_cases hi : i < s6.length
                              · as_aux_lemma =>
                                  have hxl := upd_len ⟨re, rh, ru, rm⟩ s6 i (Nat.le_of_lt hi)
                                  have hxa := upd_at ⟨re, rh, ru, rm⟩ s6 i hi
                                  have hxn := upd_next ⟨re, rh, ru, rm⟩ s6 i hi
                                  generalize hxs : updF ⟨re, rh, ru, rm⟩ (s6.take i) ++ s6.drop i = xs at *
                                  generalize hys : updF ⟨re, rh, ru, rm⟩ (s6.take (i + 1)) ++ s6.drop (i + 1) = ys at *
                                  have hxi : i < xs.length := by omega
                                  have HXA : Aside0 (xs[i] = s6[i]) := ⟨by rw [List.getElem?_eq_getElem hxi] at hxa; exact Option.some.inj hxa⟩
                                  have HXN := Aside0.mk hxn
                                  have HXL := Aside0.mk hxl
                                  have HYS := Aside0.mk hys
                                  clear hxn hxa hxs hys
                                  have HS9' : Aside0 (Seen wr base (.slice A6 xs.length c6) xs) := ⟨by rw [hxl]; exact HS9.out⟩
                                  obtain ⟨g, rfl, e0, e1, e2, e3, hf⟩ := HS9'.out.at i hxi
                                  have hgb : b ≠ g := fun e => (HS9'.out.ne BR9.out (by decide)) (by rw [e]; rfl)
                                  have hga : ba ≠ g := fun e => HA8.out (by rw [e]; rfl)
                                  obtain ⟨g0, g1, g2, g3⟩ := cells4 BA9.out
                                  have hic : i < s6.length := hi
                                  by_cases hx : s6[i].e = re
                                  · as_aux_lemma =>
                                      have hx' : xs[i].e = re := by rw [HXA.out]; exact hx
                                      rw [hx'] at e0
                                      go_upto_region 33 with fail
                                      go_quiet (fail)
                                      go_upto_region 34 with fail
                                      generalize hW10 : wr.drewN nq = W10
                                      have BR10 : Aside0 (W10.heap[b]? = some (.cells #[.int .u32 re, .int .i64 rh, .int .u64 ru, .int .i64 rm, .int .u64 (nowF now wait), .slice (some ⟨g, 0, none⟩) s6.length c6] 50 (0,0))) := ⟨by rw [← hW10]; exact blk_drewN BR9.out nq⟩
                                      have BA10 : Aside0 (W10.heap[ba]? = some (.cells #[.int .u32 re, .int .i64 rh, .int .u64 ru, .int .i64 rm] 25 (0,0))) := ⟨by rw [← hW10]; exact blk_drewN BA9.out nq⟩
                                      have HB10 : Aside0 (Below base w W10) := ⟨by rw [← hW10]; exact pw_below_drewN HB9.out nq⟩
                                      have HS10 : Aside0 (Seen W10 base (.slice (some ⟨g, 0, none⟩) xs.length c6) xs) := ⟨by rw [← hW10]; exact HS9'.out.below (pw_below_drewN (Below.refl _ _) nq)⟩
                                      clear hW10 BR9 BA9 HB9 HS9 HS9' c0 c1 c2 c3 c4 c5 g0 g1 g2 g3 e0 e1 e2 e3 hf
                                      obtain ⟨c0, c1, c2, c3, c4, c5⟩ := cells6 BR10.out
                                      obtain ⟨g0, g1, g2, g3⟩ := cells4 BA10.out
                                      obtain ⟨g', hgg, e0, e1, e2, e3, hf⟩ := HS10.out.at i hxi
                                      injection hgg with hgg
                                      injection hgg with hgg
                                      subst hgg
                                      have hf0 := hf (i * 4)
                                      have hf1 := hf (i * 4 + 1)
                                      have hf2 := hf (i * 4 + 2)
                                      have hf3 := hf (i * 4 + 3)
                                      clear hf
                                      go_still_tail 7, (by kernel_rfl)
                                      change wpList _ _ _ _ _ W10.drew
                                      go_wp2_with fail
                                      go_roundg (s6.length - (i + 1))
                                      case measure => have := HK.out; omega
                                      case rel =>
                                        have hput := HS10.out.put i hxi ⟨re, rh, ru, rm⟩
                                        rw [HXL.out] at hput
                                        have hbg : base ≤ g := HS10.out.base
                                        refine ⟨i + 1, by go_num, ⟨rfl⟩, ⟨hi⟩, ⟨?_⟩, ⟨?_⟩, ⟨?_⟩, ⟨?_⟩⟩
                                        · exact blk_drew (blk_far (blk_far (blk_far (blk_far BR10.out hgb _) hgb _) hgb _) hgb _)
                                        · exact blk_drew (blk_far (blk_far (blk_far (blk_far BA10.out hga _) hga _) hga _) hga _)
                                        · exact ((((HB10.out.setCell (p := ⟨g, i * 4, none⟩) hbg _).setCell (p := ⟨g, i * 4 + 1, none⟩) hbg _).setCell (p := ⟨g, i * 4 + 2, none⟩) hbg _).setCell (p := ⟨g, i * 4 + 3, none⟩) hbg _).drew
                                        · rw [HYS.out, HXN.out, if_pos hx]
                                          exact hput.below (Below.refl _ _).drew
                                  · as_aux_lemma =>
                                      have hx' : (xs[i].e == re) = false := by rw [HXA.out]; exact beq_eq_false_iff_ne.mpr hx
                                      go_upto_region 33 with fail
                                      go_quiet (fail)
                                      go_wp2_with fail
                                      go_roundg (s6.length - (i + 1))
                                      case measure => have := HK.out; omega
                                      case rel =>
                                        refine ⟨i + 1, by go_num, ⟨rfl⟩, ⟨hi⟩, ⟨blk_drewN BR9.out _⟩, ⟨blk_drewN BA9.out _⟩, ⟨pw_below_drewN HB9.out _⟩, ⟨?_⟩⟩
                                        rw [HYS.out, HXN.out, if_neg hx, ← HXA.out, set_same xs i xs[i] (List.getElem?_eq_getElem hxi), ← HXL.out]
                                        exact HS9'.out.below (pw_below_drewN (Below.refl _ _) _)
                              · as_aux_lemma =>
                                  obtain rfl : i = s6.length := by have := HI.out; omega
                                  clear hi
                                  go_wp2_with fail
                                  go_ret
                                  refine ⟨rfl, .slice A6 s6.length c6, ?_, ?_, HB9.out⟩
                                  · rw [leaseF, if_pos rfl]; exact BR9.out
                                  · have := HS9.out
                                    rw [List.take_length, List.drop_length, List.append_nil, HS6E.out] at this
                                    rw [seenF, if_pos rfl]
                                    rwa [HS6E.out]
              · as_aux_lemma =>
                  have hr := HZ.out he
                  subst hr
                  go_wp2_with fail
                  go_ret
                  refine ⟨rfl, .slice A seen.length c, ?_, ?_, HB5.out⟩
                  · rw [leaseF, if_neg he]; exact BR5.out
                  · rw [seenF, if_neg he]; exact HS5.out
end Go.Proofs.Ytmepidkffpmflaa.PLeaseAlone
