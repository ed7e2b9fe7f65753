/- The function BlockReads of layer 15, over its callees: it returns true. Condition: the argument reads as a list of acts. -/
import Derived.Test.YtfhnhkjbfaieiaaL0
namespace Go.Proofs.Ytfhnhkjbfaieiaa.Bl
open Go.RowKit
set_option linter.unusedVariables false
set_option linter.unusedSimpArgs false
theorem wantZ : (#[.int .u8 0, .int .u8 0, .int .u8 0, .int .u8 0, .int .u8 0, .int .u8 0, .int .u8 0, .int .u8 0] : Array Value) = (bv (List.replicate 8 0)).toArray := rfl
set_option maxHeartbeats 4000000 in
set_option maxRecDepth 100000 in
theorem reads_a (A : Option Addr) (c : Nat) (l : List Ac) (W : World) (hA : Acts W A l) (hl : l.length ≤ 9223372036854775807) :
    Calls Try.prog 3 #[.slice A l.length c] W fun e W' => e = .returned (.bool true) ∧ Below W.heap.size W W' := by
  have HA := As.mk hA
  clear hA
  go_enter Try.func3, Try.ntmps3
  go_wp2_with fail
  refine (new_yes 8 (by omega) (by omega) W).mono ?_
  rintro e1 w1 ⟨b, rfl, D1, B1, hb⟩
  go_wp2_with fail
  have hz1 := B1.size
  have D2 : As (Disk (w1.alloc (.cells (bv (List.replicate 8 0)).toArray 27 (0, 0))) (fun k => W.heap.size ≤ k ∧ k ≠ w1.heap.size) b 8 (newS 8)) := ⟨(D1.mono (own' := fun k => W.heap.size ≤ k ∧ k ≠ w1.heap.size) (fun k h hl => ⟨h, by omega⟩)).below ((Below.refl w1.heap.size _).alloc (Nat.le_refl _) _) (Nat.le_refl _)⟩
  have B2 : As (Below W.heap.size W (w1.alloc (.cells (bv (List.replicate 8 0)).toArray 27 (0, 0)))) := ⟨B1.alloc hz1 _⟩
  have N2 : As ((w1.alloc (.cells (bv (List.replicate 8 0)).toArray 27 (0, 0))).heap[w1.heap.size]? = some (.cells (bv (List.replicate 8 0)).toArray 27 (0, 0))) := ⟨blk_new w1 _⟩
  have hnw : W.heap.size ≤ w1.heap.size := hz1
  rw [wantZ]
  generalize w1.alloc (.cells (bv (List.replicate 8 0)).toArray 27 (0, 0)) = w2 at *
  generalize w1.heap.size = nw at *
  clear D1 B1 hb hz1
  go_loopg [6] l.length (fun gk v6 w' => ∃ (i : Nat) (s : St) (want : List Int), v6 = .int .i64 i ∧ As (gk = l.length - i) ∧ As (i ≤ l.length) ∧ As (i ≤ 80) ∧ As (Reads s want i) ∧ As (Disk w' (fun k => W.heap.size ≤ k ∧ k ≠ nw) b 8 s) ∧ As (w'.heap[nw]? = some (.cells (bv want).toArray 27 (0, 0))) ∧ As (Below W.heap.size W w'))
  case atStart => exact ⟨0, newS 8, List.replicate 8 0, rfl, ⟨rfl⟩, ⟨Nat.zero_le _⟩, ⟨Nat.zero_le _⟩, ⟨reads_start⟩, D2, N2, B2⟩
  case round =>
    clear D2 N2 B2
    obtain ⟨i, s, want, rfl, HK, HI, HI2, HR, HD, HN, HB⟩ := hrel
    by_cases hi : i < l.length
    · by_cases hi2 : i < 80
      · obtain ⟨ab, ao, rfl, hlt, a0, a1, a2, a3, hf0, hf1, _⟩ := HA.out i hi
        have e0 := (HB.out.cell (p := ⟨ab, ao + i * 4, none⟩) hlt).trans a0
        have e1 := (HB.out.cell (p := ⟨ab, ao + i * 4 + 1, none⟩) hlt).trans a1
        have e3 := (HB.out.cell (p := ⟨ab, ao + i * 4 + 3, none⟩) hlt).trans a3
        have A3 := As.mk a3
        clear a0 a1 a2 a3
        generalize l[i] = y at *
        obtain ⟨hk, hk8⟩ := kAt_spec 8 y.pos (by omega)
        generalize kAt 8 y.pos = k at *
        obtain ⟨kb, hkb⟩ : ∃ kb, (y.kind.tmod 3 == 0) = kb := ⟨_, rfl⟩
        have hid : decide ((i : Int) < 80) = true := decide_eq_true (by omega)
        go_upto_if 45 with fail
        clear hid hkb
        go_cut [2] from 46 to 65 (fun v2 wd => ∃ (s' : St) (want' : List Int), As (Reads s' want' (i + 1)) ∧ As (Disk wd (fun k => W.heap.size ≤ k ∧ k ≠ nw) b 8 s') ∧ As (wd.heap[nw]? = some (.cells (bv want').toArray 27 (0, 0))) ∧ As (Below W.heap.size W wd))
        case first =>
          have hnl := blk_lt HN.out
          have hs0 := HB.out.size
          cases kb with
          | true =>
            have R2 := reads_flush HR.out
            have R2 := As.mk R2
            go_wp2_with fail
            refine (flush_is (own' := fun k => W.heap.size ≤ k ∧ k ≠ nw) HD.out 0 _ R2.out.1 (fun _ h => h) (fun q hq => ⟨by omega, by omega⟩)).mono ?_
            rintro e0 w3 ⟨rfl, d3, f3⟩
            have D3 := As.mk d3
            have F3 := As.mk f3
            clear d3 f3
            go_wp2_with fail
            go_meet
            case rel => exact ⟨_, want, ⟨R2.out.2⟩, D3, ⟨(F3.out.block nw hnl (fun h => h.2 rfl)).trans HN.out⟩, ⟨HB.out.trans (F3.out.below hs0 (fun _ h => h.1))⟩⟩
          | false =>
            have R2 := As.mk (reads_write HR.out k (by omega) y.fill ⟨hf0, hf1⟩)
            go_wp2_with fail
            refine (full_a y.fill _ ⟨hf0, hf1⟩).mono ?_
            rintro e0 w3 ⟨q, p, rfl, bx, hq, hb3⟩
            have BX := As.mk bx
            have hs3 := hb3.size
            have HB3 := As.mk (HB.out.trans (hb3.mono hs0))
            have HD3 := As.mk (HD.out.below hb3 (Nat.le_refl _))
            have HN3 := As.mk ((hb3.block nw hnl).trans HN.out)
            clear bx hb3 hq e0 e1 e3
            go_wp2_with fail
            refine (write_is (own' := fun k => W.heap.size ≤ k ∧ k ≠ nw) HD3.out k p BX.out (full_len _) (by have := HR.out.wait; omega) 0 _ R2.out.1 (fun _ h => h) (fun q hq => ⟨by omega, by omega⟩)).mono ?_
            rintro e0 w4 ⟨rfl, d4, f4⟩
            have D4 := As.mk d4
            have HB4 := As.mk (HB3.out.trans (f4.below (by omega) (fun _ h => h.1)))
            have HN4 := As.mk ((f4.block nw (by omega) (fun h => h.2 rfl)).trans HN3.out)
            have q3 := (HB4.out.cell (p := ⟨ab, ao + i * 4 + 3, none⟩) hlt).trans A3.out
            have hkl : k < want.length := by have := HR.out.len; omega
            have cK : w4.cell? ⟨nw, k, none⟩ = some (.int .u8 want[k]) := by
              rw [blk_cell HN4.out, List.getElem?_toArray, bv_get, List.getElem?_eq_getElem hkl]; rfl
            have fK := blk_frozen HN4.out k
            have hk0 : (0 : Int) ≤ (k : Int) := by omega
            clear d4 f4 HD3 BX HN3 HB3
            go_wp2_with fail
            go_meet
            case rel =>
              refine ⟨_, want.set k y.fill, ⟨R2.out.2⟩, ⟨D4.out.keep (fun q hq _ => Below.heap_setCell _ _ _ _ hq.2)⟩, ⟨?_⟩, ⟨HB4.out.setCell (p := ⟨nw, k, none⟩) hnw _⟩⟩
              rw [blk_put HN4.out k, bv_set]
        case rest =>
          obtain ⟨s2, want2, HR2, HD2, HN2, HB2⟩ := hcut
          clear HR HD HN HB e0 e1 e3 A3
          have hnl := blk_lt HN2.out
          have hs2 := HB2.out.size
          go_wp2_with fail
          go_loopg [8] 8 (fun gk v8 w' => ∃ (j : Nat), v8 = .int .i64 j ∧ As (gk = 8 - j) ∧ As (j ≤ 8) ∧ As (Below wc.heap.size wc w'))
          case atStart => exact ⟨0, rfl, ⟨rfl⟩, ⟨by omega⟩, ⟨Below.refl _ _⟩⟩
          case round =>
            obtain ⟨j, rfl, HK3, HJ, HBJ⟩ := hrel
            by_cases hj : j < 8
            · have hjl : j < want2.length := by have := HR2.out.len; omega
              have D3 := As.mk (HD2.out.below HBJ.out (Nat.le_refl _))
              have N3 := As.mk ((HBJ.out.block nw hnl).trans HN2.out)
              have hsj := HBJ.out.size
              have hco := HR2.out.ok want2[j] (List.getElem_mem hjl)
              have hj0 : (0 : Int) ≤ (j : Int) := by omega
              have hj8 : (j : Int) < 8 := by omega
              have RD := As.mk (read_is D3.out j HR2.out.dark (full64 want2[j]) (reads_at HR2.out j hjl))
              have hcw : As ((bv want2)[j]? = some (.int .u8 want2[j])) := ⟨by rw [bv_get, List.getElem?_eq_getElem hjl]; rfl⟩
              generalize want2[j] = z at *
              go_wp2_with fail
              refine RD.out.mono ?_
              rintro e0 w3 ⟨g, rfl, hg, hgs, hb3⟩
              have hs3 := hb3.size
              have HG := As.mk hg
              have hgl := blk_lt hg
              have N4 := As.mk ((hb3.block nw (by omega)).trans N3.out)
              have HB3 := As.mk (HBJ.out.trans (hb3.mono hsj))
              have cJ : w3.cell? ⟨nw, j, none⟩ = some (.int .u8 z) := by
                rw [blk_cell N4.out, List.getElem?_toArray]; exact hcw.out
              clear hg hb3 RD D3 N3 hjl
              go_wp2_with fail
              refine (full_a z _ hco).mono ?_
              rintro e0 w4 ⟨q, p, rfl, bx, hq, hb4⟩
              have HG4 := As.mk ((hb4.block g hgl).trans HG.out)
              have HB4 := As.mk (HB3.out.trans (hb4.mono (by omega)))
              have BX := As.mk bx
              clear bx hb4 hq HG HB3 N4 cJ
              go_wp2_with fail
              refine (same_64 _ _ _ _ _ _ _ (bytes_of_block HG4.out (full_ok z hco)) BX.out (full_len _) (full_len _)).mono ?_
              rintro e0 w5 ⟨rfl, rfl⟩
              rw [decide_eq_true (rfl : full64 z = full64 z)]
              go_wp2_with fail
              go_roundg (8 - (j + 1))
              case measure => have := HK3.out; omega
              case rel => exact ⟨j + 1, by go_num, ⟨rfl⟩, ⟨hj⟩, HB4⟩
            · obtain rfl : j = 8 := by have := HJ.out; omega
              go_wp2_with fail
              go_roundg (l.length - (i + 1))
              case measure => have := HK.out; omega
              case rel => exact ⟨i + 1, s2, want2, by go_num, ⟨rfl⟩, ⟨hi⟩, ⟨hi2⟩, HR2, ⟨HD2.out.below HBJ.out (Nat.le_refl _)⟩, ⟨(HBJ.out.block nw hnl).trans HN2.out⟩, ⟨HB2.out.trans (HBJ.out.mono hs2)⟩⟩
      · go_wp2_with fail
        refine (known_calls _).mono ?_
        rintro e0 w3 ⟨rfl, hb3⟩
        go_wp2_with fail
        go_ret
        exact ⟨rfl, HB.out.trans (hb3.mono HB.out.size)⟩
    · go_wp2_with fail
      refine (known_calls _).mono ?_
      rintro e0 w3 ⟨rfl, hb3⟩
      go_wp2_with fail
      go_ret
      exact ⟨rfl, HB.out.trans (hb3.mono HB.out.size)⟩
end Go.Proofs.Ytfhnhkjbfaieiaa.Bl
