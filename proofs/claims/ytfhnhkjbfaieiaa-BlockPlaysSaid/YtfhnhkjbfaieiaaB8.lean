/- The contracts of the disk's methods as the laws want them; the function known: true. No condition. -/
import Derived.Test.YtfhnhkjbfaieiaaB7
namespace Go.Proofs.Ytfhnhkjbfaieiaa.Bl
open Go.RowKit
set_option linter.unusedVariables false
set_option linter.unusedSimpArgs false
section
variable {W : World} {own own' : Nat → Prop} {b n : Nat} {s : St} {A : Option Addr} {x : List Int}
theorem write_is (h : Disk W own b n s) (k : Int) (c : Nat) (hx : Bytes W A x) (h64 : x.length = 64) (hw : s.wait.length < 1000000) (r : Int) (s' : St) (hF : writeF s n k x = (r, s')) (ho : ∀ k, own k → own' k) (hn : ∀ k, W.heap.size ≤ k → own' k) :
    Calls Try.prog 11 #[.pointer (some ⟨b, 0, none⟩), .int .i64 k, .slice A 64 c] W fun e W' => e = .returned (.int .i64 r) ∧ Disk W' own' b n s' ∧ Frame own W W' := by
  have := write_a h k c hx hw
  rw [h64, hF] at this
  exact this.mono fun e W' ⟨h1, h2, h3⟩ => ⟨h1, h2.mono (fun k hk _ => hk.elim (ho k) (hn k)), h3⟩
theorem flush_is (h : Disk W own b n s) (r : Int) (s' : St) (hF : flushF s = (r, s')) (ho : ∀ k, own k → own' k) (hn : ∀ k, W.heap.size ≤ k → own' k) :
    Calls Try.prog 10 #[.pointer (some ⟨b, 0, none⟩)] W fun e W' => e = .returned (.int .i64 r) ∧ Disk W' own' b n s' ∧ Frame own W W' := by
  have := flush_a h
  rw [hF] at this
  exact this.mono fun e W' ⟨h1, h2, h3⟩ => ⟨h1, h2.mono (fun k hk _ => hk.elim (ho k) (hn k)), h3⟩
theorem crash_is (h : Disk W own b n s) (k c : Int) (hw : s.wait.length < 1000000) (hk : -9223372036854775808 ≤ k) (s' : St) (hF : crashF s k c = s') (ho : ∀ k, own k → own' k) (hn : ∀ k, W.heap.size ≤ k → own' k) :
    Calls Try.prog 17 #[.pointer (some ⟨b, 0, none⟩), .int .i64 k, .int .i64 c] W fun e W' => e = .returned (.tuple #[]) ∧ Disk W' own' b n s' ∧ Frame own W W' := by
  have := crash_a h k c hw hk
  rw [hF] at this
  exact this.mono fun e W' ⟨h1, h2, h3⟩ => ⟨h1, h2.mono (fun k hk _ => hk.elim (ho k) (hn k)), h3⟩
/-- What a block has, by its number. -/
theorem read_is (h : Disk W own b n s) (k : Nat) (hd : s.dark = false) (y : List Int) (hk : s.now[k]? = some y) :
    Calls Try.prog 13 #[.pointer (some ⟨b, 0, none⟩), .int .i64 (k : Int)] W fun e W' => ∃ g, e = .returned (.tuple #[.slice (some ⟨g, 0, none⟩) 64 64, .int .i64 0]) ∧ W'.heap[g]? = some (.cells (bv y).toArray 64 (0, 0)) ∧ W.heap.size ≤ g ∧ Below W.heap.size W W' := by
  obtain ⟨hl, rfl⟩ := List.getElem?_eq_some_iff.1 hk
  exact read_at h k hd hl
end
theorem bytes_of_block {W : World} {g : Nat} {y : List Int} (h : W.heap[g]? = some (.cells (bv y).toArray 64 (0, 0))) (hy : ByteOk y) : Bytes W (some ⟨g, 0, none⟩) y :=
  ⟨hy, fun _ => ⟨g, 0, rfl, blk_lt h, fun j v hv => by rw [blk_cell h, List.getElem?_toArray, Nat.zero_add]; exact hv⟩⟩
theorem same_64 (A B : Option Addr) (x y : List Int) (c d : Nat) (W : World) (hx : Bytes W A x) (hy : Bytes W B y) (h1 : x.length = 64) (h2 : y.length = 64) :
    Calls Try.prog 14 #[.slice A 64 c, .slice B 64 d] W fun e W' => e = .returned (.bool (decide (x = y))) ∧ W = W' := by
  have := same_a A B x y c d W hx hy
  rwa [h1, h2] at this
def K1 : List Int := over zero64 ((full64 2).take 5)
def ks1 : St := ⟨[full64 1, zero64], [zero64, zero64], [⟨0, full64 1⟩], 2, -1, false⟩
def ks2 : St := ⟨[full64 1, full64 2], [zero64, zero64], [⟨0, full64 1⟩, ⟨1, full64 2⟩], 2, -1, false⟩
def ks3 : St := ⟨[full64 3, full64 2], [zero64, zero64], [⟨0, full64 1⟩, ⟨1, full64 2⟩, ⟨0, full64 3⟩], 2, -1, false⟩
def ks4 : St := ⟨[full64 1, K1], [full64 1, K1], [], 2, -1, false⟩
def ks5 : St := ⟨[full64 1, K1], [full64 1, K1], [], 2, 1, false⟩
def ks6 : St := ⟨[full64 9, K1], [full64 1, K1], [⟨0, full64 9⟩], 2, 0, false⟩
def ks7 : St := ⟨[full64 9, K1], [full64 1, K1], [⟨0, full64 9⟩], 2, 0, true⟩
theorem k01 : writeF (newS 2) 2 0 (full64 1) = (0, ks1) := by rfl
theorem k12 : writeF ks1 2 1 (full64 2) = (0, ks2) := by rfl
theorem k23 : writeF ks2 2 0 (full64 3) = (0, ks3) := by rfl
theorem k34 : crashF ks3 1 5 = ks4 := by rfl
theorem k45 : darkF ks4 1 = ks5 := by rfl
theorem k56 : writeF ks5 2 0 (full64 9) = (0, ks6) := by rfl
theorem k67 : flushF ks6 = (6, ks7) := by rfl
set_option maxHeartbeats 4000000 in
set_option maxRecDepth 100000 in
theorem known_calls (W : World) : Calls Try.prog 15 #[] W fun e W' => e = .returned (.bool true) ∧ Below W.heap.size W W' := by
  go_enter Try.func15, Try.ntmps15
  go_wp2_with fail
  refine (new_yes 2 (by omega) (by omega) W).mono ?_
  rintro e1 w1 ⟨b, rfl, D1, B1, hb⟩
  have hz1 := B1.size
  have HB := As.mk B1
  have HD := As.mk D1
  have own0 : As (∀ w : World, W.heap.size ≤ w.heap.size → ∀ k, w.heap.size ≤ k → W.heap.size ≤ k) := ⟨fun w h k hk => by omega⟩
  clear D1 B1 hb
  go_wp2_with fail
  refine (full_a 1 _ (by omega)).mono ?_
  rintro e0 w2 ⟨q, p, rfl, bx, hq, hbf⟩
  have hz2 := hbf.size
  have hzz2 : W.heap.size ≤ w2.heap.size := by omega
  replace HB := As.mk (HB.out.trans (hbf.mono (by omega)))
  replace HD := As.mk (HD.out.below hbf (Nat.le_refl _))
  have BX := As.mk bx
  clear bx hbf hq
  go_wp2_with fail
  refine (write_is (own' := fun k => W.heap.size ≤ k) HD.out 0 p BX.out (full_len _) (by decide) 0 ks1 k01 (fun _ h => h) (fun k hk => by omega)).mono ?_
  rintro e0 w3 ⟨rfl, d2, f2⟩
  replace HB := As.mk (HB.out.trans (f2.below hzz2 (fun _ h => h)))
  replace HD := As.mk d2
  have hz3 := f2.low.size
  clear d2 f2 BX
  go_wp2_with fail
  refine (full_a 2 _ (by omega)).mono ?_
  rintro e0 w4 ⟨q, p, rfl, bx, hq, hbf⟩
  have hz4 := hbf.size
  have hzz4 : W.heap.size ≤ w4.heap.size := by omega
  replace HB := As.mk (HB.out.trans (hbf.mono (by omega)))
  replace HD := As.mk (HD.out.below hbf (Nat.le_refl _))
  have BX := As.mk bx
  clear bx hbf hq
  go_wp2_with fail
  refine (write_is (own' := fun k => W.heap.size ≤ k) HD.out 1 p BX.out (full_len _) (by decide) 0 ks2 k12 (fun _ h => h) (fun k hk => by omega)).mono ?_
  rintro e0 w5 ⟨rfl, d2, f2⟩
  replace HB := As.mk (HB.out.trans (f2.below hzz4 (fun _ h => h)))
  replace HD := As.mk d2
  have hz5 := f2.low.size
  clear d2 f2 BX
  go_wp2_with fail
  refine (full_a 3 _ (by omega)).mono ?_
  rintro e0 w6 ⟨q, p, rfl, bx, hq, hbf⟩
  have hz6 := hbf.size
  have hzz6 : W.heap.size ≤ w6.heap.size := by omega
  replace HB := As.mk (HB.out.trans (hbf.mono (by omega)))
  replace HD := As.mk (HD.out.below hbf (Nat.le_refl _))
  have BX := As.mk bx
  clear bx hbf hq
  go_wp2_with fail
  refine (write_is (own' := fun k => W.heap.size ≤ k) HD.out 0 p BX.out (full_len _) (by decide) 0 ks3 k23 (fun _ h => h) (fun k hk => by omega)).mono ?_
  rintro e0 w7 ⟨rfl, d2, f2⟩
  replace HB := As.mk (HB.out.trans (f2.below hzz6 (fun _ h => h)))
  replace HD := As.mk d2
  have hz7 := f2.low.size
  clear d2 f2 BX
  go_wp2_with fail
  refine (crash_is (own' := fun k => W.heap.size ≤ k) HD.out 1 5 (by decide) (by omega) ks4 k34 (fun _ h => h) (fun k hk => by omega)).mono ?_
  rintro e0 w8 ⟨rfl, d2, f2⟩
  replace HB := As.mk (HB.out.trans (f2.below (by omega) (fun _ h => h)))
  replace HD := As.mk d2
  have hz8 := f2.low.size
  clear d2 f2
  go_wp2_with fail
  refine (read_is HD.out 0 rfl (full64 1) rfl).mono ?_
  rintro e0 w9 ⟨r1, rfl, R1, hr1, hb9⟩
  have hz9 := hb9.size
  have hl1 := blk_lt R1
  replace HB := As.mk (HB.out.trans (hb9.mono (by omega)))
  replace HD := As.mk ((HD.out.mono (own' := fun k => W.heap.size ≤ k ∧ k < w8.heap.size) (fun k h hl => ⟨h, hl⟩)).below hb9 (Nat.le_refl _))
  have R1 := As.mk R1
  clear hb9
  go_wp2_with fail
  refine (read_is HD.out 1 rfl K1 rfl).mono ?_
  rintro e0 w10 ⟨r2, rfl, R2, hr2, hb10⟩
  have hz10 := hb10.size
  have hl2 := blk_lt R2
  replace HB := As.mk (HB.out.trans (hb10.mono (by omega)))
  replace HD := As.mk ((HD.out.mono (own' := fun k => W.heap.size ≤ k ∧ k ≠ r1 ∧ k ≠ r2) (fun k h hl => ⟨h.1, by omega, by omega⟩)).below hb10 (Nat.le_refl _))
  replace R1 := As.mk ((hb10.block r1 hl1).trans R1.out)
  have R2 := As.mk R2
  clear hb10
  go_wp2_with fail
  refine (dark_a HD.out 1 (by omega)).mono ?_
  rintro e0 w11 ⟨rfl, d2, f2⟩
  rw [k45] at d2
  replace HB := As.mk (HB.out.trans (f2.below (by omega) (fun _ h => h.1)))
  replace HD := As.mk d2
  have hz11 := f2.low.size
  replace R1 := As.mk ((f2.block r1 (by omega) (fun h => h.2.1 rfl)).trans R1.out)
  replace R2 := As.mk ((f2.block r2 (by omega) (fun h => h.2.2 rfl)).trans R2.out)
  clear d2 f2
  go_wp2_with fail
  refine (full_a 9 _ (by omega)).mono ?_
  rintro e0 w12 ⟨q, p, rfl, bx, hq, hbf⟩
  have hz12 := hbf.size
  replace HB := As.mk (HB.out.trans (hbf.mono (by omega)))
  replace HD := As.mk (HD.out.below hbf (Nat.le_refl _))
  replace R1 := As.mk ((hbf.block r1 (by omega)).trans R1.out)
  replace R2 := As.mk ((hbf.block r2 (by omega)).trans R2.out)
  have BX := As.mk bx
  clear bx hbf hq
  go_wp2_with fail
  refine (write_is (own' := fun k => W.heap.size ≤ k ∧ k ≠ r1 ∧ k ≠ r2) HD.out 0 p BX.out (full_len _) (by decide) 0 ks6 k56 (fun _ h => h) (fun k hk => ⟨by omega, by omega, by omega⟩)).mono ?_
  rintro e0 w13 ⟨rfl, d2, f2⟩
  replace HB := As.mk (HB.out.trans (f2.below (by omega) (fun _ h => h.1)))
  replace HD := As.mk d2
  have hz13 := f2.low.size
  replace R1 := As.mk ((f2.block r1 (by omega) (fun h => h.2.1 rfl)).trans R1.out)
  replace R2 := As.mk ((f2.block r2 (by omega) (fun h => h.2.2 rfl)).trans R2.out)
  clear d2 f2 BX
  go_wp2_with fail
  refine (flush_is (own' := fun k => W.heap.size ≤ k ∧ k ≠ r1 ∧ k ≠ r2) HD.out 6 ks7 k67 (fun _ h => h) (fun k hk => ⟨by omega, by omega, by omega⟩)).mono ?_
  rintro e0 w14 ⟨rfl, d2, f2⟩
  replace HB := As.mk (HB.out.trans (f2.below (by omega) (fun _ h => h.1)))
  replace HD := As.mk d2
  have hz14 := f2.low.size
  replace R1 := As.mk ((f2.block r1 (by omega) (fun h => h.2.1 rfl)).trans R1.out)
  replace R2 := As.mk ((f2.block r2 (by omega) (fun h => h.2.2 rfl)).trans R2.out)
  clear d2 f2
  go_wp2_with fail
  refine (full_a 1 _ (by omega)).mono ?_
  rintro e0 w15 ⟨q, p, rfl, bx, hq, hbf⟩
  have hz15 := hbf.size
  replace HB := As.mk (HB.out.trans (hbf.mono (by omega)))
  replace HD := As.mk (HD.out.below hbf (Nat.le_refl _))
  replace R1 := As.mk ((hbf.block r1 (by omega)).trans R1.out)
  replace R2 := As.mk ((hbf.block r2 (by omega)).trans R2.out)
  have BX := As.mk bx
  clear bx hbf hq
  have u4 : w15.cell? ⟨r2, 4, none⟩ = some (.int .u8 2) := (blk_cell R2.out 4).trans rfl
  have u5 : w15.cell? ⟨r2, 5, none⟩ = some (.int .u8 0) := (blk_cell R2.out 5).trans rfl
  go_wp2_with fail
  refine (same_64 _ _ _ _ _ _ _ (bytes_of_block R1.out (full_ok 1 (by omega))) BX.out (full_len _) (full_len _)).mono ?_
  rintro e0 w16 ⟨rfl, rfl⟩
  rw [decide_eq_true (rfl : full64 1 = full64 1)]
  go_wp2_with fail
  refine (lit_a HD.out).mono ?_
  rintro e0 w17 ⟨rfl, rfl⟩
  go_wp2_with fail
  go_ret
  exact ⟨rfl, HB.out⟩
end Go.Proofs.Ytfhnhkjbfaieiaa.Bl
