/- The function BlockSure of layer 15, over its callees: it returns true. Condition: the arguments read as bytes and as a list of acts. -/
import Derived.Test.YtfhnhkjbfaieiaaL0
namespace Go.Proofs.Ytfhnhkjbfaieiaa.Bl
open Go.RowKit
set_option linter.unusedVariables false
set_option linter.unusedSimpArgs false
def hv (l : List Bool) : List Value := l.map Value.bool
theorem hv_set (l : List Bool) (k : Nat) (c : Bool) : (hv l).toArray.setIfInBounds k (.bool c) = (hv (l.set k c)).toArray := by
  apply Array.ext'
  simp [hv, List.map_set]
theorem hitZ : (#[.bool false, .bool false, .bool false, .bool false, .bool false, .bool false, .bool false, .bool false] : Array Value) = (hv (List.replicate 8 false)).toArray := rfl
theorem wantZ6 : (#[.int .u8 0, .int .u8 0, .int .u8 0, .int .u8 0, .int .u8 0, .int .u8 0, .int .u8 0, .int .u8 0] : Array Value) = (bv (List.replicate 8 0)).toArray := rfl
/-- Which blocks were written since the flush. -/
structure Hits (s : St) (want : List Int) (hit : List Bool) (i : Nat) : Prop where
  dark : s.dark = false
  left : s.left = -1
  limit : s.limit = 8
  sure : s.sure = want.map full64
  len : want.length = 8
  ok : ByteOk want
  hlen : hit.length = 8
  waits : ∀ x ∈ s.wait, hit[x.pos]? = some true
  wait : s.wait.length ≤ i
theorem hits_start {s : St} {want : List Int} {i : Nat} (h : Reads s want i) : Hits { s with sure := s.now, wait := [] } want (List.replicate 8 false) 0 :=
  ⟨h.dark, h.left, h.limit, h.now, h.len, h.ok, rfl, (fun x hx => by cases hx), Nat.le_refl _⟩
theorem hits_write {s : St} {want : List Int} {hit : List Bool} {i : Nat} (h : Hits s want hit i) (k : Nat) (hk : k < 8) (c : Int) :
    writeF s 8 k (full64 c) = (0, { s with now := s.now.set k (full64 c), wait := s.wait ++ [⟨k, full64 c⟩] }) ∧ Hits { s with now := s.now.set k (full64 c), wait := s.wait ++ [⟨k, full64 c⟩] } want (hit.set k true) (i + 1) := by
  refine ⟨write_free (n := 8) h.dark h.left hk (by rw [h.limit]; exact Int.le_refl _) (full_len c), h.dark, h.left, h.limit, h.sure, h.len, h.ok, by rw [List.length_set]; exact h.hlen, fun x hx => ?_, ?_⟩
  · rcases List.mem_append.1 hx with hx | hx
    · by_cases e : k = x.pos
      · subst e; exact List.getElem?_set_self (by rw [h.hlen]; exact hk)
      · rw [List.getElem?_set_ne e]; exact h.waits x hx
    · obtain rfl : x = ⟨k, full64 c⟩ := by simpa using hx
      exact List.getElem?_set_self (by rw [h.hlen]; exact hk)
  · show (s.wait ++ [_]).length ≤ _
    rw [List.length_append]
    have := h.wait
    simp
    omega
theorem crashL_far (cut j : Nat) : ∀ (r : List Wr) (k : Int) (l : List (List Int)), (∀ x ∈ r, x.pos ≠ j) → (crashL cut r k l)[j]? = l[j]?
  | [], _, _, _ => rfl
  | x :: r, k, l, h => by
    have hx := h x (List.mem_cons_self ..)
    unfold crashL
    split
    · rw [List.getElem?_set_ne hx]
    · rw [crashL_far cut j r _ _ (fun y hy => h y (List.mem_cons_of_mem _ hy)), List.getElem?_set_ne hx]
/-- Behind the crash. -/
structure Post (s : St) (n : Nat) (want : List Int) (hit : List Bool) (i : Nat) : Prop where
  dark : s.dark = false
  left : s.left = -1
  limit : s.limit = n
  len : want.length = 8
  ok : ByteOk want
  hlen : hit.length = 8
  now : ∀ j, i ≤ j → hit[j]? = some false → s.now[j]? = want[j]?.map full64
  wait : s.wait.length ≤ i
theorem post_start {s : St} {want : List Int} {hit : List Bool} {i : Nat} (h : Hits s want hit i) (n : Nat) (keep cut : Int) : Post (crashF (limitF s 8 n) keep cut) n want hit 0 := by
  refine ⟨rfl, rfl, ?_, h.len, h.ok, h.hlen, fun j _ hj => ?_, Nat.le_refl _⟩
  · show (if (n : Int) < 0 then ((8 : Nat) : Int) else (n : Int)) = n
    exact if_neg (by omega)
  · show (crashL (cutN cut) s.wait keep s.sure)[j]? = _
    rw [crashL_far, h.sure, List.getElem?_map]
    intro x hx e
    have := h.waits x hx
    rw [e, hj] at this
    cases this
theorem post_yes {s : St} {n : Nat} {want : List Int} {hit : List Bool} {i : Nat} (h : Post s n want hit i) (hi : i < 8) (hn : i < n) (x : List Int) (hx : x.length = 64) : ∃ s', writeF s 8 i x = (0, s') ∧ Post s' n want hit (i + 1) := by
  refine ⟨{ s with now := s.now.set i x, wait := s.wait ++ [⟨i, x⟩] }, ?_, h.dark, h.left, h.limit, h.len, h.ok, h.hlen, fun j hj hf => ?_, ?_⟩
  · unfold writeF
    rw [act_free h.dark h.left, if_neg (by rw [h.dark]; decide), if_neg (by omega), if_neg (by rw [h.limit]; omega), if_neg (by simp)]
    rfl
  · show (s.now.set i x)[j]? = _
    rw [List.getElem?_set_ne (by omega)]
    exact h.now j (by omega) hf
  · show (s.wait ++ [_]).length ≤ _
    rw [List.length_append]
    have := h.wait
    simp
    omega
theorem post_no {s : St} {n : Nat} {want : List Int} {hit : List Bool} {i : Nat} (h : Post s n want hit i) (hi : i < 8) (hn : ¬ i < n) (x : List Int) (hx : x.length = 64) : writeF s 8 i x = (5, s) ∧ Post s n want hit (i + 1) := by
  refine ⟨?_, h.dark, h.left, h.limit, h.len, h.ok, h.hlen, fun j hj hf => h.now j (by omega) hf, by have := h.wait; omega⟩
  unfold writeF
  rw [if_neg (by rw [h.dark]; decide), if_neg (by omega), if_pos (by rw [h.limit]; omega)]
set_option maxHeartbeats 8000000 in
set_option maxRecDepth 100000 in
theorem sure_a (B : Option Addr) (d : Nat) (f : List Int) (A : Option Addr) (c : Nat) (l : List Ac) (keep cut lim : Int) (W : World) (hF : Bytes W B f) (hfl : f.length ≤ 9223372036854775807) (hA : Acts W A l) (hl : l.length ≤ 9223372036854775807)
    (hkp : -9223372036854775808 ≤ keep ∧ keep ≤ 9223372036854775807) (hct : -9223372036854775808 ≤ cut ∧ cut ≤ 9223372036854775807) (hli : -9223372036854775808 ≤ lim ∧ lim ≤ 9223372036854775807) :
    Calls Try.prog 6 #[.slice B f.length d, .slice A l.length c, .int .i64 keep, .int .i64 cut, .int .i64 lim] W fun e W' => e = .returned (.bool true) ∧ Below W.heap.size W W' := by
  have HF := As.mk hF
  have HA := As.mk hA
  have HKP := As.mk hkp
  clear hF hA hkp hct
  obtain ⟨hn, hn9⟩ := kAt_spec 9 lim (by omega)
  generalize kAt 9 lim = n at *
  go_enter Try.func6, Try.ntmps6
  go_wp2_with fail
  refine (new_yes 8 (by omega) (by omega) W).mono ?_
  rintro e1 w1 ⟨b, rfl, D1, B1, hb⟩
  go_upto_block 0 with fail
  have hz1 := B1.size
  rw [wantZ6]
  have D2 : As (Disk (w1.alloc (.cells (bv (List.replicate 8 0)).toArray 27 (0, 0))) (fun k => W.heap.size ≤ k ∧ k ≠ w1.heap.size) b 8 (newS 8)) := ⟨(D1.mono (own' := fun k => W.heap.size ≤ k ∧ k ≠ w1.heap.size) (fun k h hl => ⟨h, by omega⟩)).below ((Below.refl w1.heap.size _).alloc (Nat.le_refl _) _) (Nat.le_refl _)⟩
  have B2 : As (Below W.heap.size W (w1.alloc (.cells (bv (List.replicate 8 0)).toArray 27 (0, 0)))) := ⟨B1.alloc hz1 _⟩
  have N2 : As ((w1.alloc (.cells (bv (List.replicate 8 0)).toArray 27 (0, 0))).heap[w1.heap.size]? = some (.cells (bv (List.replicate 8 0)).toArray 27 (0, 0))) := ⟨blk_new w1 _⟩
  have hnw : W.heap.size ≤ w1.heap.size := hz1
  generalize w1.alloc (.cells (bv (List.replicate 8 0)).toArray 27 (0, 0)) = w2 at *
  generalize w1.heap.size = nw at *
  clear D1 B1 hb hz1
  go_cut [10, 14] from 33 to 59 (fun v10 v14 wc => ∃ (s : St) (want : List Int), As (Reads s want 60) ∧ As (Disk wc (fun k => W.heap.size ≤ k ∧ k ≠ nw) b 8 s) ∧ As (wc.heap[nw]? = some (.cells (bv want).toArray 27 (0, 0))) ∧ As (Below W.heap.size W wc))
  case first =>
    as_aux_lemma =>
      go_wp2_with fail
      go_loopg [14] f.length (fun gk v14 w' => ∃ (i : Nat) (s : St) (want : List Int), v14 = .int .i64 i ∧ As (gk = f.length - i) ∧ As (i ≤ f.length) ∧ As (i ≤ 60) ∧ As (Reads s want i) ∧ As (Disk w' (fun k => W.heap.size ≤ k ∧ k ≠ nw) b 8 s) ∧ As (w'.heap[nw]? = some (.cells (bv want).toArray 27 (0, 0))) ∧ As (Below W.heap.size W w'))
      case atStart => exact ⟨0, newS 8, List.replicate 8 0, rfl, ⟨rfl⟩, ⟨Nat.zero_le _⟩, ⟨Nat.zero_le _⟩, ⟨reads_start⟩, D2, N2, B2⟩
      case round =>
        clear D2 N2 B2
        obtain ⟨i, s, want, rfl, HK, HI, HI2, HR, HD, HN, HB⟩ := hrel
        have hi60 := HI2.out
        by_cases hi : i < f.length
        · by_cases hi2 : i < 60
          · have hne : f ≠ [] := fun e => by rw [e] at hi; exact absurd hi (by simp)
            obtain ⟨q, o, rfl, hq, hr⟩ := HF.out.2 hne
            have hco := HF.out.1 f[i] (List.getElem_mem hi)
            have a0 : W.cell? ⟨q, o + i, none⟩ = some (.int .u8 f[i]) := hr i _ (by rw [bv_get, List.getElem?_eq_getElem hi]; rfl)
            have A0 := As.mk a0
            have e0 := (HB.out.cell (p := ⟨q, o + i, none⟩) hq).trans a0
            generalize f[i] = z at *
            obtain ⟨k, hk⟩ : ∃ k : Nat, k = i % 8 := ⟨_, rfl⟩
            have hk8 : k < 8 := by omega
            have hki : (i : Int) % 8 = (k : Int) := by omega
            have hki' : (i : Int).tmod 8 = (k : Int) := by rw [Int.tmod_eq_emod_of_nonneg (by omega)]; exact hki
            have hkl : k < want.length := by have := HR.out.len; omega
            have cK : wr.cell? ⟨nw, k, none⟩ = some (.int .u8 want[k]) := by
              rw [blk_cell HN.out, List.getElem?_toArray, bv_get, List.getElem?_eq_getElem hkl]; rfl
            have fK := blk_frozen HN.out k
            have hs0 := HB.out.size
            have hnl := blk_lt HN.out
            have R2 := As.mk (reads_write HR.out k (by omega) z hco)
            clear hk a0 hr hne
            go_upto_region 9 with fail
            have HB2 := As.mk (HB.out.setCell (p := ⟨nw, k, none⟩) hnw (.int .u8 z))
            have HD2 : As (Disk (wr.setCell ⟨nw, k, none⟩ (.int .u8 z)) (fun k => W.heap.size ≤ k ∧ k ≠ nw) b 8 s) := ⟨HD.out.keep (fun q hq _ => Below.heap_setCell _ _ _ _ hq.2)⟩
            have HN2 : As ((wr.setCell ⟨nw, k, none⟩ (.int .u8 z)).heap[nw]? = some (.cells (bv (want.set k z)).toArray 27 (0, 0))) := ⟨by rw [blk_put HN.out k, bv_set]⟩
            have hs1 : (wr.setCell ⟨nw, k, none⟩ (.int .u8 z)).heap.size = wr.heap.size := by simp [World.setCell]
            generalize wr.setCell ⟨nw, k, none⟩ (.int .u8 z) = w3 at *
            have e1 := (HB2.out.cell (p := ⟨q, o + i, none⟩) hq).trans A0.out
            clear cK fK e0 HB HD HN
            go_wp2_with fail
            refine (full_a z _ hco).mono ?_
            rintro e0 w4 ⟨q', p, rfl, bx, hq', hb4⟩
            have BX := As.mk bx
            have hs4 := hb4.size
            have HB4 := As.mk (HB2.out.trans (hb4.mono (by omega)))
            have HD4 := As.mk (HD2.out.below hb4 (Nat.le_refl _))
            have HN4 := As.mk ((hb4.block nw (by omega)).trans HN2.out)
            clear bx hb4 hq' e1 HB2 HD2 HN2
            go_wp2_with fail
            refine (write_is (own' := fun k => W.heap.size ≤ k ∧ k ≠ nw) HD4.out k p BX.out (full_len _) (by have := HR.out.wait; omega) 0 _ R2.out.1 (fun _ h => h) (fun q hq => ⟨by omega, by omega⟩)).mono ?_
            rintro e0 w5 ⟨rfl, d5, f5⟩
            have D5 := As.mk d5
            have HB5 := As.mk (HB4.out.trans (f5.below (by omega) (fun _ h => h.1)))
            have HN5 := As.mk ((f5.block nw (by omega) (fun h => h.2 rfl)).trans HN4.out)
            clear d5 f5 HD4 BX HN4 HB4
            go_wp2_with fail
            go_roundg (f.length - (i + 1))
            case measure => have := HK.out; omega
            case rel => exact ⟨i + 1, _, want.set k z, by go_num, ⟨rfl⟩, ⟨hi⟩, ⟨hi2⟩, ⟨R2.out.2⟩, D5, HN5, HB5⟩
          · go_wp2_with fail
            go_meet
            case rel => exact ⟨s, want, ⟨{ HR.out with wait := by have := HR.out.wait; omega }⟩, HD, HN, HB⟩
        · go_wp2_with fail
          go_meet
          case rel => exact ⟨s, want, ⟨{ HR.out with wait := by have := HR.out.wait; omega }⟩, HD, HN, HB⟩
  case rest =>
    as_aux_lemma =>
      obtain ⟨s, want, HR, HD, HN, HB⟩ := hcut
      clear D2 N2 B2
      have hnl := blk_lt HN.out
      have hs0 := HB.out.size
      have FR := As.mk (reads_flush HR.out)
      have HH := As.mk (hits_start HR.out)
      clear HR
      go_wp2_with fail
      refine (flush_is (own' := fun k => W.heap.size ≤ k ∧ k ≠ nw) HD.out 0 _ FR.out.1 (fun _ h => h) (fun q hq => ⟨by omega, by omega⟩)).mono ?_
      rintro e0 w3 ⟨rfl, d3, f3⟩
      have hs3 := f3.low.size
      have HD3 := As.mk d3
      have HB3 := As.mk (HB.out.trans (f3.below hs0 (fun _ h => h.1)))
      have HN3 := As.mk ((f3.block nw hnl (fun h => h.2 rfl)).trans HN.out)
      clear d3 f3 HD HB HN FR
      go_wp2_with fail
      refine (waiting_a HD3.out).mono ?_
      rintro e0 w4 ⟨rfl, rfl⟩
      go_upto_block 2 with fail
      rw [hitZ]
      have D4 : As (Disk (w3.alloc (.cells (hv (List.replicate 8 false)).toArray 45 (0, 0))) (fun k => W.heap.size ≤ k ∧ k ≠ nw ∧ k ≠ w3.heap.size) b 8 { s with sure := s.now, wait := [] }) := ⟨(HD3.out.mono (own' := fun k => W.heap.size ≤ k ∧ k ≠ nw ∧ k ≠ w3.heap.size) (fun k h hl => ⟨h.1, h.2, by omega⟩)).below ((Below.refl w3.heap.size _).alloc (Nat.le_refl _) _) (Nat.le_refl _)⟩
      have B4 : As (Below W.heap.size W (w3.alloc (.cells (hv (List.replicate 8 false)).toArray 45 (0, 0)))) := ⟨HB3.out.alloc (by omega) _⟩
      have N4 : As ((w3.alloc (.cells (hv (List.replicate 8 false)).toArray 45 (0, 0))).heap[nw]? = some (.cells (bv want).toArray 27 (0, 0))) := ⟨blk_old HN3.out _⟩
      have M4 : As ((w3.alloc (.cells (hv (List.replicate 8 false)).toArray 45 (0, 0))).heap[w3.heap.size]? = some (.cells (hv (List.replicate 8 false)).toArray 45 (0, 0))) := ⟨blk_new w3 _⟩
      have hnh : W.heap.size ≤ w3.heap.size := by omega
      have hnn : nw ≠ w3.heap.size := by have := blk_lt HN3.out; omega
      generalize w3.alloc (.cells (hv (List.replicate 8 false)).toArray 45 (0, 0)) = w4 at *
      generalize w3.heap.size = nh at *
      generalize { s with sure := s.now, wait := [] } = s1 at *
      clear HD3 HB3 HN3 hs3
      go_cut [10, 16, 17] from 68 to 97 (fun v10 v16 v17 wc => ∃ (s : St) (hit : List Bool), As (Hits s want hit 60) ∧ As (Disk wc (fun k => W.heap.size ≤ k ∧ k ≠ nw ∧ k ≠ nh) b 8 s) ∧ As (wc.heap[nw]? = some (.cells (bv want).toArray 27 (0, 0))) ∧ As (wc.heap[nh]? = some (.cells (hv hit).toArray 45 (0, 0))) ∧ As (Below W.heap.size W wc))
      case first =>
        as_aux_lemma =>
          go_wp2_with fail
          go_loopg [16] l.length (fun gk v16 w' => ∃ (i : Nat) (s : St) (hit : List Bool), v16 = .int .i64 i ∧ As (gk = l.length - i) ∧ As (i ≤ l.length) ∧ As (i ≤ 60) ∧ As (Hits s want hit i) ∧ As (Disk w' (fun k => W.heap.size ≤ k ∧ k ≠ nw ∧ k ≠ nh) b 8 s) ∧ As (w'.heap[nw]? = some (.cells (bv want).toArray 27 (0, 0))) ∧ As (w'.heap[nh]? = some (.cells (hv hit).toArray 45 (0, 0))) ∧ As (Below W.heap.size W w'))
          case atStart => exact ⟨0, s1, List.replicate 8 false, rfl, ⟨rfl⟩, ⟨Nat.zero_le _⟩, ⟨Nat.zero_le _⟩, HH, D4, N4, M4, B4⟩
          case round =>
            clear D4 N4 M4 B4 HH
            obtain ⟨i, s, hit, rfl, HK, HI, HI2, HR, HD, HN, HM, HB⟩ := hrel
            have hi60 := HI2.out
            by_cases hi : i < l.length
            · by_cases hi2 : i < 60
              · obtain ⟨ab, ao, rfl, hlt, a0, a1, a2, a3, hf0, hf1, _⟩ := HA.out i hi
                have e1 := (HB.out.cell (p := ⟨ab, ao + i * 4 + 1, none⟩) hlt).trans a1
                have A3 := As.mk a3
                clear a0 a1 a2 a3
                generalize l[i] = y at *
                obtain ⟨hk, hk8⟩ := kAt_spec 8 y.pos (by omega)
                generalize kAt 8 y.pos = k at *
                have hk0 : (0 : Int) ≤ (k : Int) := by omega
                have hkl : k < hit.length := by have := HR.out.hlen; omega
                have cK : wr.cell? ⟨nh, k, none⟩ = some (.bool hit[k]) := by
                  rw [blk_cell HM.out, List.getElem?_toArray, hv, List.getElem?_map, List.getElem?_eq_getElem hkl]; rfl
                have fK := blk_frozen HM.out k
                have hs0 := HB.out.size
                have hnl := blk_lt HN.out
                have hml := blk_lt HM.out
                have R2 := As.mk (hits_write HR.out k (by omega) y.fill)
                go_upto_region 19 with fail
                have HB2 := As.mk (HB.out.setCell (p := ⟨nh, k, none⟩) hnh (.bool true))
                have HD2 : As (Disk (wr.setCell ⟨nh, k, none⟩ (.bool true)) (fun k => W.heap.size ≤ k ∧ k ≠ nw ∧ k ≠ nh) b 8 s) := ⟨HD.out.keep (fun q hq _ => Below.heap_setCell _ _ _ _ hq.2.2)⟩
                have HM2 : As ((wr.setCell ⟨nh, k, none⟩ (.bool true)).heap[nh]? = some (.cells (hv (hit.set k true)).toArray 45 (0, 0))) := ⟨by rw [blk_put HM.out k, hv_set]⟩
                have HN2 : As ((wr.setCell ⟨nh, k, none⟩ (.bool true)).heap[nw]? = some (.cells (bv want).toArray 27 (0, 0))) := ⟨blk_far HN.out hnn _⟩
                have hs1 : (wr.setCell ⟨nh, k, none⟩ (.bool true)).heap.size = wr.heap.size := by simp [World.setCell]
                generalize wr.setCell ⟨nh, k, none⟩ (.bool true) = w5 at *
                have e3 := (HB2.out.cell (p := ⟨ab, ao + i * 4 + 3, none⟩) hlt).trans A3.out
                clear cK fK e1 HB HD HN HM
                go_wp2_with fail
                refine (full_a y.fill _ ⟨hf0, hf1⟩).mono ?_
                rintro e0 w6 ⟨q', p, rfl, bx, hq', hb6⟩
                have BX := As.mk bx
                have hs6 := hb6.size
                have HB6 := As.mk (HB2.out.trans (hb6.mono (by omega)))
                have HD6 := As.mk (HD2.out.below hb6 (Nat.le_refl _))
                have HN6 := As.mk ((hb6.block nw (by omega)).trans HN2.out)
                have HM6 := As.mk ((hb6.block nh (by omega)).trans HM2.out)
                clear bx hb6 hq' e3 HB2 HD2 HN2 HM2
                go_wp2_with fail
                refine (write_is (own' := fun k => W.heap.size ≤ k ∧ k ≠ nw ∧ k ≠ nh) HD6.out k p BX.out (full_len _) (by have := HR.out.wait; omega) 0 _ R2.out.1 (fun _ h => h) (fun q hq => ⟨by omega, by omega, by omega⟩)).mono ?_
                rintro e0 w7 ⟨rfl, d7, f7⟩
                have D7 := As.mk d7
                have HB7 := As.mk (HB6.out.trans (f7.below (by omega) (fun _ h => h.1)))
                have HN7 := As.mk ((f7.block nw (by omega) (fun h => h.2.1 rfl)).trans HN6.out)
                have HM7 := As.mk ((f7.block nh (by omega) (fun h => h.2.2 rfl)).trans HM6.out)
                clear d7 f7 HD6 BX HN6 HM6 HB6
                go_wp2_with fail
                go_roundg (l.length - (i + 1))
                case measure => have := HK.out; omega
                case rel => exact ⟨i + 1, _, hit.set k true, by go_num, ⟨rfl⟩, ⟨hi⟩, ⟨hi2⟩, ⟨R2.out.2⟩, D7, HN7, HM7, HB7⟩
              · go_wp2_with fail
                go_meet
                case rel => exact ⟨s, hit, ⟨{ HR.out with wait := by have := HR.out.wait; omega }⟩, HD, HN, HM, HB⟩
            · go_wp2_with fail
              go_meet
              case rel => exact ⟨s, hit, ⟨{ HR.out with wait := by have := HR.out.wait; omega }⟩, HD, HN, HM, HB⟩
      case rest =>
        as_aux_lemma =>
          obtain ⟨s2, hit, HR, HD, HN, HM, HB⟩ := hcut
          clear D4 N4 M4 B4 HH
          have hs0 := HB.out.size
          have hnl := blk_lt HN.out
          have hml := blk_lt HM.out
          have PS := As.mk (post_start HR.out n keep cut)
          have hwl : s2.wait.length < 1000000 := by have := HR.out.wait; omega
          have hn0 : (0 : Int) ≤ (n : Int) := by omega
          clear HR
          go_wp2_with fail
          refine (limit_a HD.out n).mono ?_
          rintro e0 w5 ⟨rfl, d5, f5⟩
          have hs5 := f5.low.size
          have HD5 := As.mk d5
          have HB5 := As.mk (HB.out.trans (f5.below hs0 (fun _ h => h.1)))
          have HN5 := As.mk ((f5.block nw hnl (fun h => h.2.1 rfl)).trans HN.out)
          have HM5 := As.mk ((f5.block nh hml (fun h => h.2.2 rfl)).trans HM.out)
          clear d5 f5 HD HB HN HM
          go_wp2_with fail
          refine (crash_is (own' := fun k => W.heap.size ≤ k ∧ k ≠ nw ∧ k ≠ nh) HD5.out keep cut hwl HKP.out.1 _ rfl (fun _ h => h) (fun q hq => ⟨by omega, by omega, by omega⟩)).mono ?_
          rintro e0 w6 ⟨rfl, d6, f6⟩
          have hs6 := f6.low.size
          have HD6 := As.mk d6
          have HB6 := As.mk (HB5.out.trans (f6.below (by omega) (fun _ h => h.1)))
          have HN6 := As.mk ((f6.block nw (by omega) (fun h => h.2.1 rfl)).trans HN5.out)
          have HM6 := As.mk ((f6.block nh (by omega) (fun h => h.2.2 rfl)).trans HM5.out)
          clear d6 f6 HD5 HB5 HN5 HM5
          generalize crashF (limitF s2 8 n) keep cut = s3 at *
          go_wp2_with fail
          go_loopg [19] 8 (fun gk v19 w' => ∃ (i : Nat) (s : St), v19 = .int .i64 i ∧ As (gk = 8 - i) ∧ As (i ≤ 8) ∧ As (Post s n want hit i) ∧ As (Disk w' (fun k => W.heap.size ≤ k ∧ k ≠ nw ∧ k ≠ nh) b 8 s) ∧ As (w'.heap[nw]? = some (.cells (bv want).toArray 27 (0, 0))) ∧ As (w'.heap[nh]? = some (.cells (hv hit).toArray 45 (0, 0))) ∧ As (Below W.heap.size W w'))
          case atStart => exact ⟨0, s3, rfl, ⟨rfl⟩, ⟨Nat.zero_le _⟩, PS, HD6, HN6, HM6, HB6⟩
          case round =>
            clear PS HD6 HN6 HM6 HB6
            obtain ⟨i, s, rfl, HK, HI, HR, HD, HN, HM, HB⟩ := hrel
            by_cases hi : i < 8
            · have hs0 := HB.out.size
              have hnl := blk_lt HN.out
              have hml := blk_lt HM.out
              have hik : i < want.length := by have := HR.out.len; omega
              have hih : i < hit.length := by have := HR.out.hlen; omega
              have hin : i < s.now.length := by rw [HD.out.ok.now]; omega
              have hco := HR.out.ok want[i] (List.getElem_mem hik)
              obtain ⟨y, hy⟩ : ∃ y, s.now[i]? = some y := ⟨_, List.getElem?_eq_getElem hin⟩
              have hyo : As (y.length = 64 ∧ ByteOk y) := ⟨by
                have hm : y ∈ s.now := List.mem_of_getElem? hy
                exact ⟨HD.out.ok.b1.1 y hm, HD.out.ok.b1.2 y hm⟩⟩
              have hyw : As (hit[i] = false → y = full64 want[i]) := ⟨fun hf => by
                have := HR.out.now i (Nat.le_refl _) (by rw [List.getElem?_eq_getElem hih, hf])
                rw [hy, List.getElem?_eq_getElem hik] at this
                exact Option.some.inj this⟩
              have RD := As.mk (read_is HD.out i HR.out.dark y hy)
              have cN : As (∀ w : World, w.heap[nw]? = some (.cells (bv want).toArray 27 (0, 0)) → w.cell? ⟨nw, i, none⟩ = some (.int .u8 want[i])) := ⟨fun w hw => by
                rw [blk_cell hw, List.getElem?_toArray, bv_get, List.getElem?_eq_getElem hik]; rfl⟩
              have cM : As (∀ w : World, w.heap[nh]? = some (.cells (hv hit).toArray 45 (0, 0)) → w.cell? ⟨nh, i, none⟩ = some (.bool hit[i])) := ⟨fun w hw => by
                rw [blk_cell hw, List.getElem?_toArray, hv, List.getElem?_map, List.getElem?_eq_getElem hih]; rfl⟩
              generalize want[i] = z at *
              generalize hit[i] = ht at *
              have hi0 : (0 : Int) ≤ (i : Int) := by omega
              have hi8 : (i : Int) < 8 := by omega
              clear hy hik hih hin
              go_wp2_with fail
              refine RD.out.mono ?_
              rintro e0 w7 ⟨g, rfl, hg, hgs, hb7⟩
              have hs7 := hb7.size
              have hgl := blk_lt hg
              have HG := As.mk hg
              have HB7 := As.mk (HB.out.trans (hb7.mono hs0))
              have HD7 := As.mk (HD.out.below hb7 (Nat.le_refl _))
              have HN7 := As.mk ((hb7.block nw hnl).trans HN.out)
              have HM7 := As.mk ((hb7.block nh hml).trans HM.out)
              clear hg hb7 RD HB HD HN HM
              have u1 := cN.out w7 HN7.out
              have u2 := cM.out w7 HM7.out
              cases ht with
              | true =>
                go_wp2_with fail
                have HB8 := HB7
                have HD8 := HD7
                have HN8 := HN7
                have HM8 := HM7
                clear HB7 HD7 HN7 HM7 u1 u2
                refine (full_a 9 _ (by omega)).mono ?_
                rintro e0 w9 ⟨q', p, rfl, bx, hq', hb9⟩
                have BX := As.mk bx
                have hs9 := hb9.size
                have HB9 := As.mk (HB8.out.trans (hb9.mono (by omega)))
                have HD9 := As.mk (HD8.out.below hb9 (Nat.le_refl _))
                have HN9 := As.mk ((hb9.block nw (by omega)).trans HN8.out)
                have HM9 := As.mk ((hb9.block nh (by omega)).trans HM8.out)
                clear bx hb9 hq' HB8 HD8 HN8 HM8
                by_cases hin : i < n
                · obtain ⟨s', f1, f2⟩ := post_yes HR.out hi hin (full64 9) (full_len _)
                  have F1 := As.mk f1
                  have F2 := As.mk f2
                  clear f1 f2
                  go_wp2_with fail
                  refine (write_is (own' := fun k => W.heap.size ≤ k ∧ k ≠ nw ∧ k ≠ nh) HD9.out i p BX.out (full_len _) (by have := HR.out.wait; omega) 0 s' F1.out (fun _ h => h) (fun q hq => ⟨by omega, by omega, by omega⟩)).mono ?_
                  rintro e0 w10 ⟨rfl, d10, f10⟩
                  have D10 := As.mk d10
                  have HB10 := As.mk (HB9.out.trans (f10.below (by omega) (fun _ h => h.1)))
                  have HN10 := As.mk ((f10.block nw (by omega) (fun h => h.2.1 rfl)).trans HN9.out)
                  have HM10 := As.mk ((f10.block nh (by omega) (fun h => h.2.2 rfl)).trans HM9.out)
                  clear d10 f10 HB9 HD9 HN9 HM9
                  go_wp2_with fail
                  go_roundg (8 - (i + 1))
                  case measure => have := HK.out; omega
                  case rel => exact ⟨i + 1, s', by go_num, ⟨rfl⟩, ⟨hi⟩, F2, D10, HN10, HM10, HB10⟩
                · obtain ⟨f1, f2⟩ := post_no HR.out hi hin (full64 9) (full_len _)
                  have F1 := As.mk f1
                  have F2 := As.mk f2
                  clear f1 f2
                  go_wp2_with fail
                  refine (write_is (own' := fun k => W.heap.size ≤ k ∧ k ≠ nw ∧ k ≠ nh) HD9.out i p BX.out (full_len _) (by have := HR.out.wait; omega) 5 s F1.out (fun _ h => h) (fun q hq => ⟨by omega, by omega, by omega⟩)).mono ?_
                  rintro e0 w10 ⟨rfl, d10, f10⟩
                  have D10 := As.mk d10
                  have HB10 := As.mk (HB9.out.trans (f10.below (by omega) (fun _ h => h.1)))
                  have HN10 := As.mk ((f10.block nw (by omega) (fun h => h.2.1 rfl)).trans HN9.out)
                  have HM10 := As.mk ((f10.block nh (by omega) (fun h => h.2.2 rfl)).trans HM9.out)
                  clear d10 f10 HB9 HD9 HN9 HM9
                  go_wp2_with fail
                  go_roundg (8 - (i + 1))
                  case measure => have := HK.out; omega
                  case rel => exact ⟨i + 1, s, by go_num, ⟨rfl⟩, ⟨hi⟩, F2, D10, HN10, HM10, HB10⟩
              | false =>
                obtain rfl := hyw.out rfl
                go_wp2_with fail
                refine (full_a z _ hco).mono ?_
                rintro e0 w8 ⟨q', p, rfl, bx, hq', hb8⟩
                have BX := As.mk bx
                have hs8 := hb8.size
                have HB8 := As.mk (HB7.out.trans (hb8.mono (by omega)))
                have HD8 := As.mk (HD7.out.below hb8 (Nat.le_refl _))
                have HN8 := As.mk ((hb8.block nw (by omega)).trans HN7.out)
                have HM8 := As.mk ((hb8.block nh (by omega)).trans HM7.out)
                have HG8 := As.mk ((hb8.block g hgl).trans HG.out)
                clear bx hb8 hq' HB7 HD7 HN7 HM7 u1 u2 HG
                go_wp2_with fail
                refine (same_64 _ _ _ _ _ _ _ (bytes_of_block HG8.out (full_ok z hco)) BX.out (full_len _) (full_len _)).mono ?_
                rintro e0 w5 ⟨rfl, rfl⟩
                rw [decide_eq_true (rfl : full64 z = full64 z)]
                clear HG8 BX
                go_wp2_with fail
                refine (full_a 9 _ (by omega)).mono ?_
                rintro e0 w9 ⟨q', p, rfl, bx, hq', hb9⟩
                have BX := As.mk bx
                have hs9 := hb9.size
                have HB9 := As.mk (HB8.out.trans (hb9.mono (by omega)))
                have HD9 := As.mk (HD8.out.below hb9 (Nat.le_refl _))
                have HN9 := As.mk ((hb9.block nw (by omega)).trans HN8.out)
                have HM9 := As.mk ((hb9.block nh (by omega)).trans HM8.out)
                clear bx hb9 hq' HB8 HD8 HN8 HM8
                by_cases hin : i < n
                · obtain ⟨s', f1, f2⟩ := post_yes HR.out hi hin (full64 9) (full_len _)
                  have F1 := As.mk f1
                  have F2 := As.mk f2
                  clear f1 f2
                  go_wp2_with fail
                  refine (write_is (own' := fun k => W.heap.size ≤ k ∧ k ≠ nw ∧ k ≠ nh) HD9.out i p BX.out (full_len _) (by have := HR.out.wait; omega) 0 s' F1.out (fun _ h => h) (fun q hq => ⟨by omega, by omega, by omega⟩)).mono ?_
                  rintro e0 w10 ⟨rfl, d10, f10⟩
                  have D10 := As.mk d10
                  have HB10 := As.mk (HB9.out.trans (f10.below (by omega) (fun _ h => h.1)))
                  have HN10 := As.mk ((f10.block nw (by omega) (fun h => h.2.1 rfl)).trans HN9.out)
                  have HM10 := As.mk ((f10.block nh (by omega) (fun h => h.2.2 rfl)).trans HM9.out)
                  clear d10 f10 HB9 HD9 HN9 HM9
                  go_wp2_with fail
                  go_roundg (8 - (i + 1))
                  case measure => have := HK.out; omega
                  case rel => exact ⟨i + 1, s', by go_num, ⟨rfl⟩, ⟨hi⟩, F2, D10, HN10, HM10, HB10⟩
                · obtain ⟨f1, f2⟩ := post_no HR.out hi hin (full64 9) (full_len _)
                  have F1 := As.mk f1
                  have F2 := As.mk f2
                  clear f1 f2
                  go_wp2_with fail
                  refine (write_is (own' := fun k => W.heap.size ≤ k ∧ k ≠ nw ∧ k ≠ nh) HD9.out i p BX.out (full_len _) (by have := HR.out.wait; omega) 5 s F1.out (fun _ h => h) (fun q hq => ⟨by omega, by omega, by omega⟩)).mono ?_
                  rintro e0 w10 ⟨rfl, d10, f10⟩
                  have D10 := As.mk d10
                  have HB10 := As.mk (HB9.out.trans (f10.below (by omega) (fun _ h => h.1)))
                  have HN10 := As.mk ((f10.block nw (by omega) (fun h => h.2.1 rfl)).trans HN9.out)
                  have HM10 := As.mk ((f10.block nh (by omega) (fun h => h.2.2 rfl)).trans HM9.out)
                  clear d10 f10 HB9 HD9 HN9 HM9
                  go_wp2_with fail
                  go_roundg (8 - (i + 1))
                  case measure => have := HK.out; omega
                  case rel => exact ⟨i + 1, s, by go_num, ⟨rfl⟩, ⟨hi⟩, F2, D10, HN10, HM10, HB10⟩
            · obtain rfl : i = 8 := by have := HI.out; omega
              have hs0 := HB.out.size
              go_wp2_with fail
              refine (known_calls _).mono ?_
              rintro e0 w7 ⟨rfl, hb7⟩
              go_wp2_with fail
              go_ret
              exact ⟨rfl, HB.out.trans (hb7.mono hs0)⟩
end Go.Proofs.Ytfhnhkjbfaieiaa.Bl
