/- A block is written (Write). Condition: the receiver is a disk in memory, or nil; the bytes read as bytes. -/
import Derived.Test.YtfhnhkjbfaieiaaB5
import Derived.Test.YtfhnhkjbfaieiaaQHeld
import Derived.Deep.RegionHeld3
import Derived.Deep.DrawnRows
import Derived.Great.BuildSlice
namespace Go.Proofs.Ytfhnhkjbfaieiaa.Bl
open Go.RowKit
set_option linter.unusedVariables false
set_option linter.unusedSimpArgs false
theorem size66 : (Try.prog.info? 66).map (·.size) = some 65 := by kernel_rfl
theorem zw_len (k : Nat) : (wv ⟨k, zero64⟩).length = 65 := wv_len _ zero64_len
theorem wpList_build66 {ops : Array Oper} {rest : List Oper} {o : Oper} {a : Act} {w : World} {Q : Exit → Act → World → Prop} (hgd : o.guard = none) (x : Operand) (ho : o.op = .build 66 #[(0, x)]) (k : Nat) (hx : a.eval x = .int .i64 (k : Int))
    (h : wpList Try.prog ops Q rest (a.put o.dst (.agg (wv ⟨k, zero64⟩).toArray)) w) : wpList Try.prog ops Q (o :: rest) a w := by
  refine wpList_plain hgd fun K hK => ?_
  have hb : (Instr.build 66 #[(0, .int .i64 (k : Int))]).run Try.prog w = .ok (.agg (wv ⟨k, zero64⟩).toArray) w := by kernel_rfl
  unfold Oper.wp
  simp [execOp, ho, hx, hb, Result.andThen]
  exact hK _ _ h
theorem zero66 (w : World) : (zeroValue 66).run Try.prog w = .ok (.agg (wv ⟨0, zero64⟩).toArray) w := by kernel_rfl
theorem size5 : (Try.prog.info? 5).map (·.size) = some 1 := by kernel_rfl
theorem splice_w (k : Nat) (x : List Int) (h : x.length = 64) : splice (wv ⟨k, zero64⟩) 1 (bv x) = wv ⟨k, x⟩ := by
  unfold splice
  have e : (wv ⟨k, zero64⟩).drop (1 + (bv x).length) = [] := List.drop_eq_nil_of_le (by rw [zw_len, bv_len, h]; omega)
  rw [e, List.append_nil]
  rfl
theorem no_byte {W : World} {own : Nat → Prop} {b n g1 c1 g2 c2 : Nat} {s : St} {v : Value} (h : DiskAt W own b n s g1 c1 g2 c2 v) {q o : Nat} {x : List Int} (hr : W.rangeAt q o (bv x)) (hx : x ≠ []) : q ≠ b := by
  intro e
  subst e
  cases x with
  | nil => exact hx rfl
  | cons y x =>
    have h1 := hr 0 (.int .u8 y) rfl
    rw [blk_cell h.blk] at h1
    have hv : ∃ A k c, v = .slice A k c := by
      rcases h.wait.2 with ⟨hv, h0⟩ | ⟨g, cap, _, hv, _⟩
      · exact ⟨_, _, _, hv⟩
      · exact ⟨_, _, _, hv⟩
    obtain ⟨A, k, c, rfl⟩ := hv
    rcases (show o = 0 ∨ o = 1 ∨ o = 2 ∨ o = 3 ∨ o = 4 ∨ o = 5 ∨ 6 ≤ o by omega) with rfl | rfl | rfl | rfl | rfl | rfl | ho
    all_goals first | (simp at h1; done) | (rw [Array.getElem?_eq_none (by simpa using ho)] at h1; cases h1)
theorem exec_load_mid {P : Program} (o : Oper) (a : Act) (w' : World) (ty : TypeId) (x : Operand) (ho : o.op = .load ty x) (b off : Nat) (hx : a.eval x = .pointer (some ⟨b, off, none⟩)) (cs : List Value) (d : TypeDesc) (hc : w'.rangeAt b off cs)
    (hu : P.underlying ty = some d) (hd : d.isRow = true) (hi : (P.info? ty).map (·.size) = some cs.length) : (execOp a.eval o).run P w' = .ok (.value (.agg cs.toArray)) w' := by
  unfold execOp
  simp only [ho, hx, Instr.loadAt, Instr.sureAddr, Sem.run_bind, Sem.run_pure, Result.andThen_ok, run_loadVar_mid w' b off ty cs d hc hu hd hi]
theorem info66 : (Try.prog.info? 66).map (fun i => (i.zero, i.size, i.bytes)) = some (some (.agg (wv ⟨0, zero64⟩).toArray), 65, 72) := by kernel_rfl
theorem wp_build59 {o : Oper} {a : Act} {w : World} {K : Act → World → Prop} {Q : Exit → Act → World → Prop} (x : Operand) (ho : o.op = .buildSlice 59 1 #[(0, x)]) (cs : List Value) (hx : a.eval x = .agg cs.toArray) (hl : cs.length = 65)
    (h : K (a.put o.dst (.slice (some ⟨w.heap.size, 0, none⟩) 1 1)) (w.alloc (.cells cs.toArray 66 (0, 0)))) : o.wp Try.prog a w K Q := by
  obtain ⟨i0, hi, hz0, hz1, hz2⟩ := info_parts info66
  refine wp_buildSlice 59 66 1 #[(0, x)] ho cs.toArray i0 _ Try.underlying59 hi hz0 (by rw [hz1]; decide) (by rw [hz1]; decide) ?_ h
  have := Great.fill_whole (s := 65) (by omega) [.agg cs.toArray] ((Array.range (1 * i0.size)).map ((Value.agg (wv ⟨0, zero64⟩).toArray).cells[· % (Value.agg (wv ⟨0, zero64⟩).toArray).cells.size]!)) (fun v hv => by
    obtain rfl : v = .agg cs.toArray := by simpa using hv
    show cs.toArray.size = 65
    rw [List.size_toArray, hl]) (by simp [hz1])
  rw [hz1] at this ⊢
  simp only [List.flatMap_cons, List.flatMap_nil, List.append_nil] at this
  refine Eq.trans ?_ (this.trans ?_)
  · congr 1
    simp [hx]
  · rfl
theorem keep13 {w : World} {b bw g1 k : Nat} {x : List Int} {u : Value} (h : w.cell? ⟨b, 0, none⟩ = some u ∧ w.rangeAt bw 1 (bv x) ∧ w.there g1 (k * 64) 64) (h1 : b ≠ g1) (h2 : bw ≠ g1) :
    (w.setCells g1 (k * 64) (bv x)).cell? ⟨b, 0, none⟩ = some u ∧ (w.setCells g1 (k * 64) (bv x)).rangeAt bw 1 (bv x) ∧ (w.setCells g1 (k * 64) (bv x)).there g1 (k * 64) 64 :=
  ⟨by rw [World.cell?_setCells_out _ _ _ _ _ (fun e => absurd e h1)]; exact h.1, World.rangeAt_setCells_apart h.2.1 _ _ _ (.inl h2), World.there_setCells h.2.2 _ _ _⟩
def writeF (s : St) (n : Nat) (k : Int) (x : List Int) : Int × St :=
  if s.dark = true then (6, s) else if k < 0 ∨ (n : Int) ≤ k ∨ x.length ≠ 64 then (150, s) else if s.limit ≤ k then (5, s)
  else if (actF s).1 = false then (6, (actF s).2) else (0, { (actF s).2 with now := s.now.set k.toNat x, wait := s.wait ++ [⟨k.toNat, x⟩] })
theorem good_ok {s : St} {n : Nat} (h : s.Ok n) (k : Nat) (x : List Int) (hk : k < n) (hl : x.length = 64) (hx : ByteOk x) : St.Ok { (actF s).2 with now := s.now.set k x, wait := s.wait ++ [⟨k, x⟩] } n := by
  obtain ⟨a1, a2, a3, a4, a5, a6, a7, a8, a9⟩ := act_ok h
  refine ⟨a1, a2, by rw [List.length_set]; exact h.now, a4, ⟨h.b1.1.set _ hl, fun y hy => ?_⟩, a6, fun y hy => ?_, a8, a9⟩
  · rcases List.mem_or_eq_of_mem_set hy with hy | rfl
    · exact h.b1.2 y hy
    · exact hx
  · rcases List.mem_append.1 hy with hy | hy
    · exact h.b3 y hy
    · obtain rfl : y = ⟨k, x⟩ := by simpa using hy
      exact ⟨hk, hl, hx⟩
theorem write_ok {s : St} {n : Nat} (h : s.Ok n) (k : Int) (x : List Int) (hx : ByteOk x) : (writeF s n k x).2.Ok n := by
  unfold writeF
  split
  · exact h
  · split
    · exact h
    · split
      · exact h
      · split
        · exact act_ok h
        · exact good_ok h _ x (by omega) (by omega) hx
theorem DiskAt.store {W : World} {own : Nat → Prop} {b n g1 c1 g2 c2 : Nat} {s : St} {v : Value} (h : DiskAt W own b n s g1 c1 g2 c2 v) (h64 : All64 s.now) (hn : s.now.length = n) (k : Nat) (hk : k < n) (x : List Int) (hx : x.length = 64) :
    DiskAt (W.setCells g1 (k * 64) (bv x)) own b n { s with now := s.now.set k x } g1 c1 g2 c2 v := by
  have hb : b ≠ g1 := fun e => own_ne h.now h.blk (by decide) _ rfl e.symm
  refine ⟨by rw [setCells_far _ _ _ _ hb]; exact h.blk, ?_, own_keep h.sure (fun g hg _ => setCells_far _ _ _ _ (by rw [← ob_eq hg]; exact h.ne.symm)), own_keep h.wait (fun g hg hl => setCells_far _ _ _ _ (fun e => ?_)), h.ne, h.o0, h.o1, h.o2, h.o3⟩
  · have := own_put (bv x) (k * 64) _ _ h.now
    have hki : k < s.now.length := by omega
    rw [flat_put h64 k hki x (by omega), over_full _ _ (by rw [hx, h64 _ (List.getElem_mem hki)])] at this
    exact this
  · obtain ⟨cur, hc, _⟩ := own_block h.now
    exact own_ne h.wait hc (by decide) g hg e
theorem write_nil (W : World) (k : Int) (v : Value) : Calls Try.prog 11 #[.pointer none, .int .i64 k, v] W fun e W' => e = .returned (.int .i64 1) ∧ W = W' := by
  go_enter Try.func11, Try.ntmps11
  go_wp2_with fail
  go_ret
  exact ⟨rfl, rfl⟩
section
variable {W : World} {own : Nat → Prop} {b n : Nat} {s : St} {A : Option Addr} {x : List Int}
theorem write_dark (h : Disk W own b n s) (k : Int) (v : Value) (hd : s.dark = true) :
    Calls Try.prog 11 #[.pointer (some ⟨b, 0, none⟩), .int .i64 k, v] W fun e W' => e = .returned (.int .i64 6) ∧ W = W' := by
  obtain ⟨hok, g1, c1, g2, c2, v, h⟩ := h
  obtain ⟨_, _, _, _, _, c⟩ := h.cells
  rw [hd] at c
  clear h hok
  go_enter Try.func11, Try.ntmps11
  go_wp2_with fail
  go_ret
  exact ⟨rfl, rfl⟩
theorem write_block (h : Disk W own b n s) (k : Int) (c : Nat) (m : Nat) (hd : s.dark = false) (hk : k < 0 ∨ (n : Int) ≤ k ∨ m ≠ 64) :
    Calls Try.prog 11 #[.pointer (some ⟨b, 0, none⟩), .int .i64 k, .slice A m c] W fun e W' => e = .returned (.int .i64 150) ∧ W = W' := by
  obtain ⟨hok, g1, c1, g2, c2, v, h⟩ := h
  obtain ⟨c0, _, _, _, _, c⟩ := h.cells
  rw [hd] at c
  clear h hok hd
  by_cases h1 : k < 0
  · clear hk
    go_enter Try.func11, Try.ntmps11
    go_wp2_with fail
    go_ret
    exact ⟨rfl, rfl⟩
  · by_cases h2 : (n : Int) ≤ k
    · clear hk
      go_enter Try.func11, Try.ntmps11
      go_wp2_with fail
      go_ret
      exact ⟨rfl, rfl⟩
    · have h3 : ((m : Int) != 64) = true := by
        have : m ≠ 64 := by omega
        simpa using (show ¬ (m : Int) = 64 by omega)
      clear hk
      go_enter Try.func11, Try.ntmps11
      go_wp2_with fail
      go_ret
      exact ⟨rfl, rfl⟩
theorem write_full (h : Disk W own b n s) (k : Int) (c : Nat) (hd : s.dark = false) (h1 : ¬ k < 0) (h2 : ¬ (n : Int) ≤ k) (hl : s.limit ≤ k) :
    Calls Try.prog 11 #[.pointer (some ⟨b, 0, none⟩), .int .i64 k, .slice A 64 c] W fun e W' => e = .returned (.int .i64 5) ∧ W = W' := by
  obtain ⟨hok, g1, c1, g2, c2, v, h⟩ := h
  obtain ⟨c0, _, _, c3, _, c⟩ := h.cells
  rw [hd] at c
  clear h hok hd
  generalize s.limit = l at *
  go_enter Try.func11, Try.ntmps11
  go_wp2_with fail
  go_ret
  exact ⟨rfl, rfl⟩
theorem write_gone (h : Disk W own b n s) (k : Int) (c : Nat) (hd : s.dark = false) (h1 : ¬ k < 0) (h2 : ¬ (n : Int) ≤ k) (hl : ¬ s.limit ≤ k) (ha : (actF s).1 = false) :
    Calls Try.prog 11 #[.pointer (some ⟨b, 0, none⟩), .int .i64 k, .slice A 64 c] W fun e W' => e = .returned (.int .i64 6) ∧ Disk W' own b n (actF s).2 ∧ Frame own W W' := by
  obtain ⟨hok, g1, c1, g2, c2, v, h⟩ := h
  obtain ⟨c0, _, _, c3, _, c⟩ := h.cells
  rw [hd] at c
  have OK := As.mk (act_ok hok)
  have HA := act_at h hok
  rw [ha] at HA
  have HA := As.mk HA
  clear h hok hd ha
  generalize s.limit = l at *
  go_enter Try.func11, Try.ntmps11
  go_wp2_with fail
  refine HA.out.mono ?_
  rintro e w1 ⟨rfl, q1, q2, _, _⟩
  have Q1 := As.mk q1
  have Q2 := As.mk q2
  clear q1 q2 c0 c3 c HA
  go_wp2_with fail
  go_ret
  exact ⟨rfl, ⟨OK.out, g1, c1, g2, c2, v, Q1.out⟩, Q2.out⟩
set_option maxHeartbeats 4000000 in
set_option maxRecDepth 100000 in
theorem write_good (h : Disk W own b n s) (k : Nat) (c : Nat) (hx : Bytes W A x) (hx64 : x.length = 64) (hd : s.dark = false) (h2 : k < n) (hl : ¬ s.limit ≤ k) (ha : (actF s).1 = true) (hw : s.wait.length < 1000000) :
    Calls Try.prog 11 #[.pointer (some ⟨b, 0, none⟩), .int .i64 (k : Int), .slice A 64 c] W fun e W' => e = .returned (.int .i64 0) ∧ Disk W' (And' own W) b n { (actF s).2 with now := s.now.set k x, wait := s.wait ++ [⟨k, x⟩] } ∧ Frame own W W' := by
  have hne : x ≠ [] := fun e => by rw [e] at hx64; cases hx64
  obtain ⟨q, o, rfl, hq, hr⟩ := hx.2 hne
  have hbo := hx.1
  have OK' := As.mk (good_ok h.ok k x h2 hx64 hbo)
  obtain ⟨hok, g1, c1, g2, c2, v, h⟩ := h
  obtain ⟨c0, _, _, c3, _, c⟩ := h.cells
  rw [hd] at c
  have HA := act_at h hok
  rw [ha] at HA
  have HA := As.mk HA
  have H := As.mk h
  have OK := As.mk hok
  have HR := As.mk hr
  have hn : n ≤ 1024 := hok.n2
  have hl' : (k : Int) < s.limit := by omega
  have h2' : (k : Int) < n := by omega
  clear h hok hd ha hr hx hl
  generalize s.limit = l at *
  go_enter Try.func11, Try.ntmps11
  go_wp2_with fail
  refine HA.out.mono ?_
  rintro e w1 ⟨rfl, q1, q2, q3, q4⟩
  have Q1 := As.mk q1
  have Q2 := As.mk q2
  have Q3 := As.mk q3
  have Q4 := As.mk q4
  clear q1 q2 q3 q4 c0 c3 c HA
  have hz66 := zero66
  go_upto_region 12 with (first | (refine wpList_build66 rfl (.tmp 44) rfl k rfl ?_) | (refine wpList_store_mid rfl 66 (.tmp 7) (.tmp 45) rfl w1.heap.size 0 (wv ⟨k, zero64⟩).toArray rfl rfl (there_block (blk_new w1 _) _ _ (by rw [List.size_toArray, zw_len]; exact Nat.le_refl _)) (by rw [List.size_toArray, zw_len]; exact size66) (all_oneCell_toArray (wv_one _)) ?_))
  have hbw : As (((w1.alloc (.cells (wv ⟨0, zero64⟩).toArray 66 (0, 0))).setCells w1.heap.size 0 (wv ⟨k, zero64⟩)).heap[w1.heap.size]? = some (.cells (wv ⟨k, zero64⟩).toArray 66 (0, 0))) := ⟨by
    rw [setCells_same (wv ⟨k, zero64⟩) w1.heap.size 0 _ _ (blk_new w1 _), putAt_whole _ _ (by rw [zw_len, zw_len])]⟩
  have hB2 : As (Below w1.heap.size w1 ((w1.alloc (.cells (wv ⟨0, zero64⟩).toArray 66 (0, 0))).setCells w1.heap.size 0 (wv ⟨k, zero64⟩))) := ⟨((Below.refl _ _).alloc (Nat.le_refl _) _).trans (setCells_below _ (Nat.le_refl _))⟩
  generalize (w1.alloc (.cells (wv ⟨0, zero64⟩).toArray 66 (0, 0))).setCells w1.heap.size 0 (wv ⟨k, zero64⟩) = w2 at *
  have hR2 : As (w2.rangeAt q o (bv x)) := ⟨range_heap HR.out ((hB2.out.block q (by have := Q4.out; omega)).trans (Q3.out q (no_byte H.out HR.out hne)))⟩
  generalize hbwe : w1.heap.size = bw at *
  have HBW := As.mk hbwe
  clear hbwe hz66
  go_upto_region 13 with ((refine wpList_copy_splice rfl (.tmp 47) (.tmp 48) 33 33 rfl 5 Try.underlying33 size5 (some ⟨bw, 1, none⟩) (some ⟨q, o, none⟩) 64 64 64 c rfl rfl bw 1 (wv ⟨k, zero64⟩) 66 hbw.out (bv x) (by rw [bv_len, hx64]; rfl) (fun _ => ⟨rfl, _, rfl, fun j v hv => ?c1⟩) (by rw [bv_len, hx64, zw_len]; exact Nat.le_refl _) (bv_one x) bw w1 hB2.out (Nat.le_refl _) ?_))
  case c1 => rw [Addr.add_mid]; exact hR2.out j v hv
  intro w3 hg3 hb3
  have hbw3 : As (w3.heap[bw]? = some (.cells (wv ⟨k, x⟩).toArray 66 (0, 0))) := ⟨by rw [← splice_w k x hx64]; exact hg3.out⟩
  have hB3 := As.mk hb3
  clear hg3 hb3 hB2 hR2 hbw
  have hD3 : As (DiskAt w3 own b n (actF s).2 g1 c1 g2 c2 v) := ⟨Q1.out.keep (fun k _ hl => hB3.out.block k (by have := HBW.out; omega))⟩
  have OKA := As.mk (act_ok OK.out)
  have E1 := As.mk (act_same s)
  generalize hsa : (actF s).2 = sa at *
  have HSA := As.mk hsa
  clear hsa
  obtain ⟨d0, d1, d2, d3, d4, d5⟩ := hD3.out.cells
  go_upto_region 13 with fail
  have hu := Try.underlying64
  have hi : (Try.prog.info? 64).map (·.size) = some (bv x).length := by rw [bv_len, hx64]; exact size64
  have hlen : (bv x).length = 64 := by rw [bv_len, hx64]
  have hone := bv_one x
  have hi0 : (0 : Int) ≤ (k : Int) := by omega
  have hr3 : w3.rangeAt bw 1 (bv x) := fun j v hv => by
    rw [blk_cell hbw3.out, List.getElem?_toArray, Nat.add_comm]
    exact hv
  have ht3 : w3.there g1 (k * 64) 64 := own_there hD3.out.now _ _ (by omega)
  have hbg : b ≠ g1 := fun e => own_ne hD3.out.now hD3.out.blk (by decide) _ rfl e.symm
  have hwg : bw ≠ g1 := by have h1 : g1 < w1.heap.size := own_lt Q1.out.now _ rfl; have := HBW.out; omega
  go_region_held3 (fun w' => w'.cell? ⟨b, 0, none⟩ = some (.slice (some ⟨g1, 0, none⟩) n c1) ∧ w'.rangeAt bw 1 (bv x) ∧ w'.there g1 (k * 64) 64) (first | go_keep_ranges | (go_split_ands; exact keep13 ⟨by assumption, by assumption, by assumption⟩ hbg hwg)) (fail)
  have hD4 : As (DiskAt (w3.drew.setCells g1 (k * 64) (bv x)) own b n { sa with now := s.now.set k x } g1 c1 g2 c2 v) := ⟨by
    have hD : DiskAt w3.drew own b n sa g1 c1 g2 c2 v := hD3.out.keep (fun _ _ _ => rfl)
    have e1 : sa.now = s.now := E1.out.1
    have := hD.store (by rw [e1]; exact OK.out.b1.1) (by rw [e1]; exact OK.out.now) k h2 x hx64
    rwa [e1] at this⟩
  have hbw4 : As ((w3.drew.setCells g1 (k * 64) (bv x)).heap[bw]? = some (.cells (wv ⟨k, x⟩).toArray 66 (0, 0))) := ⟨by rw [setCells_far _ _ _ _ hwg]; exact hbw3.out⟩
  have hF4 : As (Frame own W (w3.drew.setCells g1 (k * 64) (bv x))) := ⟨((Q2.out.trans (Frame.of_below (own := own) hB3.out (by rw [HBW.out]; exact Nat.le_refl _)) (fun _ _ h => h)).drew).setCells (.inl hD3.out.o1) _ _⟩
  have hS4 : As (bw < (w3.drew.setCells g1 (k * 64) (bv x)).heap.size) := ⟨blk_lt hbw4.out⟩
  generalize w3.drew.setCells g1 (k * 64) (bv x) = w4 at *
  clear hD3 hbw3 hB3 hr3 ht3 hu hi hlen hone d0 d1 d2 d3 d4 d5 Q1 Q3
  obtain ⟨d0, d1, d2, d3, d4, d5⟩ := hD4.out.cells
  go_upto_region 14 with fail
  have hr4 : w4.rangeAt bw 0 (wv ⟨k, x⟩) := fun j u hu => by
    rw [blk_cell hbw4.out, List.getElem?_toArray, Nat.zero_add]
    exact hu
  refine wp_region_plan_held 10 (fun w' => w'.cell? ⟨b, 2, none⟩ = some v ∧ w'.rangeAt bw 0 (wv ⟨k, x⟩)) [(1, 0), (1, 1), (1, 2), (1, 3), (0, 4), (0, 5), (2, 6), (2, 7), (1, 8), (1, 9), (2, 10)] (by kernel_rfl) (by kernel_rfl) (by kernel_rfl) (by kernel_rfl) (fun _ _ _ _ _ h => h) ⟨d2, hr4⟩ ?_
  simp only [tagged, List.filterMap_cons, List.filterMap_nil, List.getElem?_toArray, List.getElem?_cons_succ, List.getElem?_cons_zero, Option.map_some]
  iterate 4 (refine wpHeld_sure (fun K hK => ?_); go_simp; refine hK _ ?_; clear hK K)
  refine wpHeld_take (fun K hK => ?_)
  rw [if_pos (by rfl)]
  apply Exists.intro
  refine ⟨fun w' hw' => ?_, hK _ ?_⟩
  · obtain ⟨s0, s1⟩ := hw'
    go_simp
    rfl
  clear hK K
  refine wpHeld_take (fun K hK => ?_)
  rw [if_pos (by rfl)]
  refine ⟨.agg (wv ⟨k, x⟩).toArray, fun w' hw' => ?_, hK _ ?_⟩
  · obtain ⟨s0, s1⟩ := hw'
    exact exec_load_mid _ _ _ 66 (.tmp 7) rfl bw 0 rfl (wv ⟨k, x⟩) _ s1 Try.underlying66 rfl (by rw [wv_len _ hx64]; exact size66)
  clear hK K
  refine wpHeld_next (fun K hK => ?_)
  rw [if_pos (by rfl)]
  refine wp_build59 (.tmp 63) rfl (wv ⟨k, x⟩) rfl (wv_len _ hx64) ?_
  generalize hW6 : w4.drew.alloc (.cells (wv ⟨k, x⟩).toArray 66 (0, 0)) = w6
  have hD6 : As (DiskAt w6 own b n { sa with now := s.now.set k x } g1 c1 g2 c2 v) := ⟨by rw [← hW6]; exact hD4.out.keep (fun k _ hl => Below.heap_alloc _ _ _ hl)⟩
  have hbw6 : As (w6.heap[bw]? = some (.cells (wv ⟨k, x⟩).toArray 66 (0, 0))) := ⟨by rw [← hW6]; exact blk_old (W := w4.drew) hbw4.out _⟩
  have hN6 : As (w6.heap[w4.heap.size]? = some (.cells (wv ⟨k, x⟩).toArray 66 (0, 0))) := ⟨by rw [← hW6]; exact blk_new w4.drew _⟩
  have hF6 : As (Frame own W w6) := ⟨by rw [← hW6]; exact hF4.out.drew.alloc _⟩
  have hs6 : w6.heap.size = w4.heap.size + 1 := by rw [← hW6]; simp
  have hW4 : As (W.heap.size ≤ w4.heap.size) := ⟨hF4.out.low.size⟩
  clear hW6 hD4 hbw4 hF4 hr4 d0 d1 d2 d3 d4 d5
  obtain ⟨d0, d1, d2, d3, d4, d5⟩ := hD6.out.cells
  have hr6 : w6.rangeAt bw 0 (wv ⟨k, x⟩) := fun j u hu => by
    rw [blk_cell hbw6.out, List.getElem?_toArray, Nat.zero_add]
    exact hu
  refine hK _ _ (fun _ => ⟨d2, hr6⟩) ?_
  clear hK K hr6
  have hww : s.wait.length = sa.wait.length := by rw [E1.out.2.2.1]
  refine wpHeld_next (fun K hK => ?_)
  obtain ⟨i0, hi0, hz0, hz1, hz2⟩ := info_parts info66
  refine step_append_lies w6 (by rfl) _ _ _ (by rfl) 0 66 i0 _ 65 72 Try.underlying59 hi0 hz0 hz1 hz2 (by rfl) (by omega) v sa.wait.length (flatW sa.wait) (by rfl) hD6.out.wait
    ⟨w4.heap.size, 0, none⟩ 1 1 (wv ⟨k, x⟩) (by rfl) (wv_len _ hx64) (World.news_of_block hN6.out) (wv_one _) (by omega) (by unfold maxLen; omega) (by omega) (by omega) (w4.heap.size + 1) hs6 ?_
  intro gg cap w7 hown7 hgrow7 hat7 hlt7
  have hvlt : ∀ g, v.ownBlock = some g → g < W.heap.size := own_lt H.out.wait
  have hvb : ∀ g, v.ownBlock = some g → g ≠ b := own_ne hD6.out.wait hD6.out.blk (by decide)
  have hBR7 : As (w7.heap[b]? = some (.cells #[.slice (some ⟨g1, 0, none⟩) n c1, .slice (some ⟨g2, 0, none⟩) n c2, v, .int .i64 sa.limit, .int .i64 sa.left, .bool sa.dark] 61 (0, 0))) := ⟨(hgrow7.block b (blk_lt hD6.out.blk) (fun e => hvb b e.symm rfl)).trans hD6.out.blk⟩
  have hbw7 : As (w7.heap[bw]? = some (.cells (wv ⟨k, x⟩).toArray 66 (0, 0))) := ⟨(hgrow7.block bw (blk_lt hbw6.out) (fun e => by have := hvlt bw e.symm; have := Q4.out; omega)).trans hbw6.out⟩
  have hkp : ∀ g, g < w6.heap.size → v.ownBlock ≠ some g → w7.heap[g]? = w6.heap[g]? := fun g hg hv => hgrow7.block g hg (fun e => hv e.symm)
  have hnow7 : As (w7.ownsRow 0 64 64 (.slice (some ⟨g1, 0, none⟩) n c1) n (flat (s.now.set k x))) := ⟨own_keep hD6.out.now (fun g hg hl => hkp g hl (fun e => by
    obtain ⟨cur, hc, _⟩ := own_block hD6.out.now
    exact own_ne hD6.out.wait hc (by decide) g e (ob_eq hg).symm))⟩
  have hsure7 : As (w7.ownsRow 0 64 64 (.slice (some ⟨g2, 0, none⟩) n c2) n (flat sa.sure)) := ⟨own_keep hD6.out.sure (fun g hg hl => hkp g hl (fun e => by
    obtain ⟨cur, hc, _⟩ := own_block hD6.out.sure
    exact own_ne hD6.out.wait hc (by decide) g e (ob_eq hg).symm))⟩
  have hF7 : As (Frame own W w7) := ⟨hF6.out.grown hgrow7 (fun k hk => .inl (hD6.out.o3 k hk))⟩
  have hwt7 : As (w7.ownsRow 0 66 65 (.slice (some ⟨gg, 0, none⟩) (sa.wait.length + 1) cap) (sa.wait.length + 1) (flatW sa.wait ++ wv ⟨k, x⟩)) := ⟨hown7⟩
  have hgg7 : As (own gg ∨ W.heap.size ≤ gg) := ⟨by
    rcases hat7 with h | h
    · exact .inl (hD6.out.o3 gg h)
    · right; have := hW4.out; omega⟩
  have hO := As.mk (And.intro hD6.out.o0 (And.intro hD6.out.o1 hD6.out.o2))
  have hNE := As.mk hD6.out.ne
  clear hown7 hgrow7 hat7 hlt7 hD6 hbw6 hN6 hF6 hkp d0 d1 d2 d3 d4 d5
  have d2 := (blk_cell hBR7.out 2).trans rfl
  have f2 := blk_frozen hBR7.out 2
  have hr7 : w7.rangeAt bw 0 (wv ⟨k, x⟩) := fun j u hu => by
    rw [blk_cell hbw7.out, List.getElem?_toArray, Nat.zero_add]
    exact hu
  refine hK _ _ (fun _ => ⟨d2, hr7⟩) ?_
  clear hK K hr7
  iterate 2 (refine wpHeld_sure (fun K hK => ?_); go_simp; refine hK _ ?_; clear hK K)
  refine wpHeld_next (fun K hK => ?_)
  go_simp
  refine hK _ _ (fun h => absurd rfl h) ?_
  clear hK K
  refine wpHeld_nil ?_
  go_wp2_with fail
  go_ret
  have hg1b : g1 ≠ b := own_ne hnow7.out hBR7.out (by decide) _ rfl
  have hg2b : g2 ≠ b := own_ne hsure7.out hBR7.out (by decide) _ rfl
  have hggb : gg ≠ b := own_ne hwt7.out hBR7.out (by decide) _ rfl
  rw [HSA.out]
  refine ⟨rfl, ⟨OK'.out, g1, c1, g2, c2, .slice (some ⟨gg, 0, none⟩) (sa.wait.length + 1) cap, ?_⟩, hF7.out.setCell (.inl hO.out.1) _⟩
  refine ⟨?_, ?_, ?_, ?_, hNE.out, .inl hO.out.1, .inl hO.out.2.1, .inl hO.out.2.2, fun g hg => by rw [← ob_eq hg]; exact hgg7.out⟩
  · rw [blk_put hBR7.out 2]
    simp
  · exact own_keep hnow7.out (fun g hg _ => Below.heap_setCell _ _ _ _ (by rw [← ob_eq hg]; exact hg1b))
  · exact own_keep hsure7.out (fun g hg _ => Below.heap_setCell _ _ _ _ (by rw [← ob_eq hg]; exact hg2b))
  · show (w7.setCell ⟨b, 2, none⟩ _).ownsRow 0 66 65 _ (s.wait ++ [(⟨k, x⟩ : Wr)]).length (flatW (s.wait ++ [(⟨k, x⟩ : Wr)]))
    rw [flatW_snoc, List.length_append, ← E1.out.2.2.1]
    exact own_keep hwt7.out (fun g hg _ => Below.heap_setCell _ _ _ _ (by rw [← ob_eq hg]; exact hggb))
end
end Go.Proofs.Ytfhnhkjbfaieiaa.Bl
