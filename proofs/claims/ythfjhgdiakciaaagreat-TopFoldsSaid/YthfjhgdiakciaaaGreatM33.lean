/- The law (drayagetop.TopFolds), walked: whatever moves there are, it answers true, and what lay in memory ahead of it stands. Condition: the moves lie in memory as they are told. -/
import Derived.Test.YthfjhgdiakciaaaGreatM32
namespace Go.Proofs.YthfjhgdiakciaaaGreat.Bl
open Go.RowKit Go.Maps
set_option linter.unusedVariables false
set_option linter.unusedSimpArgs false
structure Mv where
 kind : Int
 who : Int
 n : Int
 key : Int
 plan : Int
/-- The row of moves. -/
def Moves (W : World) (A : Option Addr) (l : List Mv) : Prop := ∀ i (h : i < l.length), ∃ q o, A = some ⟨q, o, none⟩ ∧ q < W.heap.size ∧ W.cell? ⟨q, o + i * 5, none⟩ = some (.int .i64 l[i].kind) ∧ W.cell? ⟨q, o + i * 5 + 1, none⟩ = some (.int .i64 l[i].who) ∧
 W.cell? ⟨q, o + i * 5 + 2, none⟩ = some (.int .i64 l[i].n) ∧ W.cell? ⟨q, o + i * 5 + 3, none⟩ = some (.int .i64 l[i].key) ∧ W.cell? ⟨q, o + i * 5 + 4, none⟩ = some (.int .i64 l[i].plan)
theorem Moves.below {W W' : World} {A : Option Addr} {l : List Mv} (h : Moves W A l) (hb : Below W.heap.size W W') {i : Nat} (hi : i < l.length) : ∃ q o, A = some ⟨q, o, none⟩ ∧ q < W.heap.size ∧ W'.cell? ⟨q, o + i * 5, none⟩ = some (.int .i64 l[i].kind) ∧ W'.cell? ⟨q, o + i * 5 + 1, none⟩ = some (.int .i64 l[i].who) ∧
  W'.cell? ⟨q, o + i * 5 + 2, none⟩ = some (.int .i64 l[i].n) ∧ W'.cell? ⟨q, o + i * 5 + 3, none⟩ = some (.int .i64 l[i].key) ∧ W'.cell? ⟨q, o + i * 5 + 4, none⟩ = some (.int .i64 l[i].plan) := by
 obtain ⟨q, o, a, b, r⟩ := h i hi
 have e : ∀ j, W'.cell? ⟨q, j, none⟩ = W.cell? ⟨q, j, none⟩ := fun j => World.cell?_of_block (w := W) (a := ⟨q, j, none⟩) (hb.block q b)
 refine ⟨q, o, a, b, ?_⟩
 rw [e, e, e, e, e]
 exact r
/-- The loop's state. -/
def TopI (W w : World) (db jb lb mb i : Nat) (sv : Value) : Prop := ∃ segs safe s l ls OD OS OP OL OE vs pv lv sf last tk nt, TopAt W w db jb lb mb i sv segs safe s l ls OD OS OP OL OE vs pv lv sf last tk nt
theorem topI_new {W w1 w2 w3 w4 : World} {db jb lb mb : Nat} {vs pv : Value} {sf : Int} {OP : Nat → Prop} (h1 : Disk w1 (fun k => W.heap.size ≤ k) db 512 (newS 512)) (b1 : Below W.heap.size W w1) (hj : JBlk w2 jb db vs sf) (hjb : w1.heap.size ≤ jb) (hv : JV w2 (fun k => w1.heap.size ≤ k ∧ k ≠ jb) vs []) (b2 : Below w1.heap.size w1 w2)
  (b3 : Below w2.heap.size w2 w3) (hl : LedAt w4 OP (fun _ => False) lb mb pv (.slice none 0 0) planL [] 0 0 0) (hlb : w3.heap.size ≤ lb) (hmb : w3.heap.size ≤ mb) (hop : ∀ k, OP k → w3.heap.size ≤ k) (b4 : Below w3.heap.size w3 w4) : TopI W w4 db jb lb mb 0 (.slice none 0 0) := by
 have s1 := b1.size
 have s2 := b2.size
 have s3 := b3.size
 have s4 := b4.size
 have hjl := blk_lt hj
 have b24 : Below w2.heap.size w2 w4 := b3.trans (b4.mono s3)
 have hd : Disk w1 (fun k => W.heap.size ≤ k ∧ k < w1.heap.size) db 512 (newS 512) := h1.mono (fun k a b => ⟨a, b⟩)
 have hv2 : vs = .slice none 0 0 := by
  rcases hv with h | ⟨old, cur, ps, p, B, e, _⟩
  ·exact h.2
  ·have := congrArg List.length e; simp at this
 refine ⟨[], [], newS 512, [], [], fun k => W.heap.size ≤ k ∧ k < w1.heap.size, fun _ => False, OP, fun _ => False, fun _ => False, vs, pv, .slice none 0 0, sf, 0, 0, 0, (b24.block jb hjl).trans hj, (hd.below b2 (Nat.le_refl _)).below b24 (Nat.le_refl _), .inl ⟨rfl, hv2⟩, ⟨fun k hk => ⟨by omega, id, by omega⟩, fun k hk => hk.elim, id⟩, dinv_new, hl, .nil, .nil, EntRow.nil _ _, rfl, Nat.zero_le _, Nat.zero_le _, fun k hk => ?_, fun k hk => id, fun k hk => ?_, fun k hk => hk.elim, ?_⟩
 ·have : k < w2.heap.size := by
   rcases hk with hk | hk | hk
   ·omega
   ·exact hk.elim
   ·omega
  exact ⟨fun e => by have := hop k e; omega, id, by omega, by omega, id⟩
 ·rcases hk with hk | hk | hk | hk | hk | hk | hk | hk
  ·exact hk.1
  ·exact hk.elim
  ·omega
  ·have := hop k hk; omega
  ·exact hk.elim
  ·omega
  ·omega
  ·exact hk.elim
 ·exact ((b1.trans (b2.mono s1)).trans (b3.mono (by omega))).trans (b4.mono (by omega))
theorem TopAt.keepB {W w w' : World} {db jb lb mb i last B : Nat} {sv vs pv lv : Value} {segs safe : List Seg} {s : St} {l ls : List Or} {OD OS OP OL OE : Nat → Prop} {sf tk nt : Int} (h : TopAt W w db jb lb mb i sv segs safe s l ls OD OS OP OL OE vs pv lv sf last tk nt)
  (hx : ∀ k, (OP k ∨ OL k ∨ k = lb ∨ k = mb ∨ OD k ∨ OS k ∨ k = jb ∨ OE k) → k < B) (hW : W.heap.size ≤ B) (hb : Below B w w') : TopAt W w' db jb lb mb i sv segs safe s l ls OD OS OP OL OE vs pv lv sf last tk nt where
 j := (hb.block jb (hx jb (.inr (.inr (.inr (.inr (.inr (.inr (.inl rfl))))))))).trans h.j
 d := h.d.keep (fun k hk _ => hb.block k (hx k (.inr (.inr (.inr (.inr (.inl hk)))))))
 v := h.v.keep (fun k hk _ => hb.block k (hx k (.inr (.inr (.inr (.inr (.inr (.inl hk)))))))) hb.size
 ap := h.ap.grow hb.size
 inv := h.inv
 led := h.led.keep (fun k hk _ => hb.block k (hx k (hk.elim .inl (fun hk => hk.elim (fun hk => .inr (.inl hk)) (fun hk => hk.elim (fun hk => .inr (.inr (.inl hk))) (fun hk => .inr (.inr (.inr (.inl hk))))))))) hb.size
 f := h.f
 fs := h.fs
 row := h.row.keep (fun k hk _ => hb.block k (hx k (.inr (.inr (.inr (.inr (.inr (.inr (.inr hk))))))))) hb.size
 lst := h.lst
 n := h.n
 ns := h.ns
 x1 := h.x1
 x2 := h.x2
 lo := h.lo
 oe := fun k hk => Nat.lt_of_lt_of_le (h.oe k hk) hb.size
 low := h.low.trans (hb.mono hW)
theorem LedAt.slice {W : World} {OP OL : Nat → Prop} {lb mb last : Nat} {pv lv : Value} {tk nt : Int} {ps : List (List Stp)} {l : List Or} (h : LedAt W OP OL lb mb pv lv ps l last tk nt) : ∃ A c, lv = .slice A l.length c := by
 obtain ⟨cs, _, r, _⟩ := h.ors
 rcases r.2 with ⟨hv, h0⟩ | ⟨g, cap, _, hv, _⟩
 ·rw [h0]; exact ⟨_, _, hv⟩
 ·exact ⟨_, _, hv⟩
theorem bytes_one {w : World} {g k : Nat} {fr : Nat × Nat} (h : w.heap[g]? = some (.cells #[.int .u8 k] 5 fr)) (hk : k < 256) : Bytes w (some ⟨g, 0, none⟩) [(k : Int)] :=
 ⟨fun y hy => by rw [List.mem_singleton.1 hy]; omega, fun _ => ⟨g, 0, rfl, blk_lt h, fun j v hv => by
  have hj : j = 0 := by
   have := (List.getElem?_eq_some_iff.1 hv).1
   simpa [bv] using this
  subst hj
  rw [blk_cell h]
  exact hv⟩⟩
theorem lits_new : LitS (newS 512) := ⟨rfl, rfl, rfl⟩
set_option maxHeartbeats 8000000 in
set_option maxRecDepth 100000 in
theorem top_a (A : Option Addr) (c : Nat) (l : List Mv) (ct : Int) (W : World) (hm : Moves W A l) (hll : l.length ≤ 9223372036854775807) :
  Calls Tryz.prog 3 #[.slice A l.length c, .int .i64 ct] W fun e W' => e = .returned (.bool true) ∧ Below W.heap.size W W' := by
 have HM := As.mk hm
 clear hm
 go_enter Tryz.func3, Tryz.ntmps3
 go_wp2_with fail
 refine (new_yes 512 (by omega) (by omega) W).mono ?_
 rintro e w1 ⟨db, rfl, q1, q2, q3⟩
 have D1 := As.mk q1
 have B1 := As.mk q2
 clear q1 q2 q3
 go_wp2_with fail
 have hok : SegsOk [] := ⟨fun i s h => by simp at h, fun i s t h => by simp at h, fun s h => by simp at h⟩
 refine (open_a (W := w1) (OD := fun k => W.heap.size ≤ k ∧ k < w1.heap.size) (D1.out.mono (fun k a b => ⟨a, b⟩)) lits_new (slots_now now_new hok (by decide)) hok (fun k hk => hk.2) (by decide)).mono ?_
 rintro e w2 ⟨jb, vs, sf, rfl, q1, q2, q3, _, q5⟩
 have J2 := As.mk (And.intro q1 (And.intro q2 q3))
 have B2 := As.mk (q5 rfl)
 clear q1 q2 q3 q5 hok
 go_wp2_with fail
 refine (plans_a w2).mono ?_
 rintro e w3 ⟨pv0, rfl, q1, q2⟩
 have P3 := As.mk q1
 have B3 := As.mk q2
 clear q1 q2
 go_wp2_with fail
 refine (lnew_a P3.out planL_ok (by decide)).mono ?_
 rintro e w4 ⟨lb, mb, pv, OP, rfl, q1, q2, q3, q4, q5⟩
 have HT := As.mk (topI_new D1.out B1.out J2.out.2.1 J2.out.1 J2.out.2.2 B2.out B3.out q1 q2 q3 q4 q5)
 clear q1 q2 q3 q4 q5 P3 B3 D1 B1 J2 B2
 go_wp2_with fail
 go_loopg [11, 12] (min l.length 100) (fun gk v11 v12 w' => ∃ (i : Nat) (sv : Value), v12 = .int .i64 i ∧ v11 = sv ∧ As (gk = min l.length 100 - i) ∧ As (i ≤ min l.length 100) ∧ As (TopI W w' db jb lb mb i sv))
 case atStart => exact ⟨0, _, rfl, rfl, ⟨rfl⟩, ⟨Nat.zero_le _⟩, HT⟩
 case round =>
  obtain ⟨i, sv, rfl, hv, HK, HI, HT⟩ := hrel
  have hv := hv.symm
  subst hv
  go_upto_region 8 with fail
  go_cut [61] from 54 to 60 (fun v61 wc => v61 = .bool (decide (i < l.length ∧ i < 100)) ∧ As (wc = wr))
  case first =>
   by_cases h1 : i < l.length
   ·have d1 : decide ((i : Int) < (l.length : Int)) = true := by simp; omega
    by_cases h2 : i < 100
    ·have d2 : decide ((i : Int) < 100) = true := by simp; omega
     have d3 : decide (i < l.length ∧ i < 100) = true := decide_eq_true ⟨h1, h2⟩
     have D3 := As.mk d3
     clear d3
     go_wp2_with fail
     go_meet
     case rel => exact ⟨by rw [D3.out], ⟨rfl⟩⟩
    ·have d2 : decide ((i : Int) < 100) = false := by simp; omega
     have d3 : decide (i < l.length ∧ i < 100) = false := decide_eq_false (fun h => h2 h.2)
     have D3 := As.mk d3
     clear d3
     go_wp2_with fail
     go_meet
     case rel => exact ⟨by rw [D3.out], ⟨rfl⟩⟩
   ·have d1 : decide ((i : Int) < (l.length : Int)) = false := by simp; omega
    have d3 : decide (i < l.length ∧ i < 100) = false := decide_eq_false (fun h => h1 h.1)
    have D3 := As.mk d3
    clear d3
    go_wp2_with fail
    go_meet
    case rel => exact ⟨by rw [D3.out], ⟨rfl⟩⟩
  case rest =>
   obtain ⟨rfl, HWR⟩ := hcut
   have e0 := HWR.out
   subst e0
   clear HWR
   by_cases hlt : i < l.length ∧ i < 100
   ·rw [decide_eq_true hlt]
    obtain ⟨segs, safe, s, lo, ls, OD, OS, OP, OL, OE, vs, pv, lv, sf, last, tk, nt, h⟩ := HT.out
    obtain ⟨hl1, hl2⟩ := hlt
    have d1 : decide ((i : Int) < (l.length : Int)) = true := by simp; omega
    have d2 : decide ((i : Int) < 100) = true := by simp; omega
    have LO := As.mk (h.f.lok planL_ok (by have := h.n; omega))
    have hlast : last ≤ 100 := by have := h.lst; have := h.n; omega
    have HNX : As (nextL segs - 1 = last) := ⟨by have := h.inv.nx; have := h.lst; omega⟩
    have HLL := As.mk (Nat.le_trans h.f.len h.n)
    have hwl : IntKind.u64.wrap ((last : Int) + 1) = (last : Int) + 1 := by simp [IntKind.wrap, IntKind.bits, IntKind.signed]; omega
    have HH := As.mk h
    have HMV : As (∀ w, Below W.heap.size W w → _) := ⟨fun w hw => HM.out.below (W' := w) hw hl1⟩
    clear h HT
    go_wp2_with fail
    refine (last8_v HH.out.j HH.out.v HH.out.inv.ok).mono ?_
    rintro e w5 ⟨rfl, q1⟩
    rw [HNX.out]
    have H5 := As.mk (HH.out.keep q1)
    clear q1
    go_wp2_with fail
    have HB5 : As ((w5.alloc (.cells #[.int .i64 0, .int .u64 ((last : Int) + 1), .int .u32 1, .int .u32 0, .int .i64 0, .bool false, .int .i64 0, .int .i64 0, .int .u64 0, .slice none 0 0, .slice none 0 0] 41)).heap[w5.heap.size]? = some (.cells #[.int .i64 0, .int .u64 ((last : Int) + 1), .int .u32 1, .int .u32 0, .int .i64 0, .bool false, .int .i64 0, .int .i64 0, .int .u64 0, .slice none 0 0, .slice none 0 0] 41 (0, 0))) := ⟨blk_new w5 _⟩
    have HX13 : As (∀ k, (OP k ∨ OL k ∨ k = lb ∨ k = mb ∨ OD k ∨ OS k ∨ k = jb ∨ OE k) → k < w5.heap.size) := ⟨fun k hk => by
     rcases hk with hk | hk | hk | hk | hk | hk | hk | hk
     ·exact H5.out.led.b1 k hk
     ·exact H5.out.led.b2 k hk
     ·rw [hk]; exact blk_lt H5.out.led.blk
     ·rw [hk]; exact H5.out.led.mlt
     ·exact (H5.out.ap.d k hk).1
     ·exact H5.out.ap.s k hk
     ·rw [hk]; exact H5.out.jlt
     ·exact H5.out.oe k hk⟩
    have HW5 : As (W.heap.size ≤ w5.heap.size) := ⟨H5.out.low.size⟩
    have H6 := As.mk (H5.out.keep ((Below.refl _ w5).alloc (Nat.le_refl _) (.cells #[.int .i64 0, .int .u64 ((last : Int) + 1), .int .u32 1, .int .u32 0, .int .i64 0, .bool false, .int .i64 0, .int .i64 0, .int .u64 0, .slice none 0 0, .slice none 0 0] 41)))
    have hs6 : (w5.alloc (.cells #[.int .i64 0, .int .u64 ((last : Int) + 1), .int .u32 1, .int .u32 0, .int .i64 0, .bool false, .int .i64 0, .int .i64 0, .int .u64 0, .slice none 0 0, .slice none 0 0] 41)).heap.size = w5.heap.size + 1 := by simp
    generalize w5.alloc (.cells #[.int .i64 0, .int .u64 ((last : Int) + 1), .int .u32 1, .int .u32 0, .int .i64 0, .bool false, .int .i64 0, .int .i64 0, .int .u64 0, .slice none 0 0, .slice none 0 0] 41) = w6 at *
    refine (due_a H6.out.led planL_ok LO.out).mono ?_
    rintro e w7 ⟨v14, rfl, q1, q2⟩
    have H7 := As.mk (H6.out.keep q2)
    have HB7 := As.mk ((q2.block w5.heap.size (blk_lt HB5.out)).trans HB5.out)
    obtain ⟨A14, c14, rfl⟩ := q1.form
    have HD7 := As.mk q1
    have hs7 : w6.heap.size ≤ w7.heap.size := q2.size
    clear q1 q2 HB5
    go_wp2_with fail
    refine (asked_a H7.out.led LO.out).mono ?_
    rintro e w8 ⟨v15, rfl, q1, q2⟩
    have H8 := As.mk (H7.out.keep q2)
    have HB8 := As.mk ((q2.block w5.heap.size (blk_lt HB7.out)).trans HB7.out)
    obtain ⟨A15, c15, rfl⟩ := q1.form
    have HD8 : As (w8.ownsRow w6.heap.size 51 4 (.slice A14 (colL nextS 1 lo).length c14) (colL nextS 1 lo).length ((colL nextS 1 lo).flatMap duC)) := ⟨own_keep HD7.out (fun g _ hg => q2.block g hg)⟩
    have HA8 := As.mk q1
    have HSZ8 : As (w5.heap.size < w6.heap.size ∧ w6.heap.size ≤ w8.heap.size) := ⟨by omega, by have := q2.size; omega⟩
    have HLB := As.mk ((blk_cell H8.out.led.blk 1).trans rfl)
    clear q1 q2 HB7 HD7 H5 H6 H7 HH hs6 hs7
    have hdl := colL_len nextS lo 1
    have hal := colL_len askedS lo 1
    have hol := HLL.out
    go_upto_block 2 with fail
    go_cut [16, 17] from 72 to 186 (fun v16 v17 wc => ∃ (e : Ent) (cs : List Value), As (EntOk e ∧ e.lsn = (last : Int) + 1 ∧ Todo lo e) ∧ As (wc.heap[w5.heap.size]? = some (.cells cs.toArray 41 (0, 0))) ∧ As (EntAt wc (fun k => w8.heap.size ≤ k) e cs) ∧ As (TopAt W wc db jb lb mb i sv segs safe s lo ls OD OS OP OL OE vs pv lv sf last tk nt) ∧ As (w8.heap.size ≤ wc.heap.size))
    case first =>
     obtain ⟨q, o, rfl, hq, m0, m1, m2, m3, m4⟩ := HMV.out w8 H8.out.low
     have HMM : As (∀ w', Below w5.heap.size w8 w' → w'.cell? ⟨q, o + i * 5, none⟩ = some (.int .i64 l[i].kind) ∧ w'.cell? ⟨q, o + i * 5 + 2, none⟩ = some (.int .i64 l[i].n) ∧ w'.cell? ⟨q, o + i * 5 + 3, none⟩ = some (.int .i64 l[i].key) ∧ w'.cell? ⟨q, o + i * 5 + 4, none⟩ = some (.int .i64 l[i].plan)) := ⟨fun w' hb => by
      have e : ∀ j, w'.cell? ⟨q, j, none⟩ = w8.cell? ⟨q, j, none⟩ := fun j => World.cell?_of_block (w := w8) (a := ⟨q, j, none⟩) (hb.block q (by have := HW5.out; omega))
      rw [e, e, e, e]
      exact ⟨m0, m2, m3, m4⟩⟩
     have HT : As (∀ w', Below w5.heap.size w8 w' → TopAt W w' db jb lb mb i sv segs safe s lo ls OD OS OP OL OE vs pv lv sf last tk nt) := ⟨fun w' hb => H8.out.keepB HX13.out HW5.out hb⟩
     obtain ⟨Al, cl, hlv⟩ := H8.out.led.slice
     have HC1 : As (∀ w', Below w5.heap.size w8 w' → w'.cell? ⟨lb, 1, none⟩ = some (.slice Al lo.length cl)) := ⟨fun w' hb => by rw [← hlv]; exact (HT.out w' hb).led.cells.2.1⟩
     have HBX8 := HB8.out
     obtain ⟨k0, k1, k2, k3, k4, k5, k6, k7, k8, k9, k10⟩ := cells11 HBX8
     have hlen5 := blk_lt HBX8
     have hfr : ∀ j, w8.frozen? ⟨w5.heap.size, j, none⟩ = false := fun j => blk_frozen HBX8 j
     have HD9 : As (∀ m, m < (colL nextS 1 lo).length → ∃ g u, A14 = some ⟨g, 0, none⟩ ∧ u ∈ colL nextS 1 lo ∧ w8.rangeAt g (m * 4) [.int .u32 u.no, .int .i64 u.d.st, .bool u.d.undo, .int .i64 u.d.tr]) := ⟨fun m hm => by
      obtain ⟨g, cc, e, _, hr⟩ := DueRow.at HD8.out (List.getElem?_eq_getElem hm)
      injection e with e _ _
      exact ⟨g, _, e, List.getElem_mem hm, hr⟩⟩
     have HA9 : As (∀ m, m < (colL askedS 1 lo).length → ∃ g u, A15 = some ⟨g, 0, none⟩ ∧ u ∈ colL askedS 1 lo ∧ w8.rangeAt g (m * 4) [.int .u32 u.no, .int .i64 u.d.st, .bool u.d.undo, .int .i64 u.d.tr]) := ⟨fun m hm => by
      obtain ⟨g, cc, e, _, hr⟩ := DueRow.at HA8.out (List.getElem?_eq_getElem hm)
      injection e with e _ _
      exact ⟨g, _, e, List.getElem_mem hm, hr⟩⟩
     clear HD8 HA8
     generalize (colL nextS 1 lo).length = n14 at *
     generalize (colL askedS 1 lo).length = n15 at *
     have HBX9 := As.mk HBX8
     obtain ⟨bO, hbO⟩ : ∃ bO, bO = (decide (l[i].kind ≤ 4) || (((n14 : Int) == 0) && ((n15 : Int) == 0))) := ⟨_, rfl⟩
     obtain ⟨bI, hbI⟩ : ∃ bI, bI = ((decide (l[i].kind ≤ 8) && decide (0 < (n14 : Int))) || ((n15 : Int) == 0)) := ⟨_, rfl⟩
     have HBO := As.mk hbO
     have HBI := As.mk hbI
     clear hbO hbI
     go_upto_region 15 with fail
     go_cut [104] from 105 to 120 (fun v104 wx => v104 = .bool bO ∧ As (w8 = wx))
     case first =>
      cases c1 : decide (l[i].kind ≤ 4) with
      | true =>
       have e1 : As (bO = true) := ⟨by rw [HBO.out, c1]; rfl⟩
       go_wp2_with fail
       go_meet
       case rel => exact ⟨by rw [e1.out], ⟨rfl⟩⟩
      | false =>
       cases c2 : ((n14 : Int) == 0) with
       | false =>
        have e1 : As (bO = false) := ⟨by rw [HBO.out, c1, c2]; rfl⟩
        go_wp2_with fail
        go_meet
        case rel => exact ⟨by rw [e1.out], ⟨rfl⟩⟩
       | true =>
        cases c3 : ((n15 : Int) == 0) with
        | false =>
         have e1 : As (bO = false) := ⟨by rw [HBO.out, c1, c2, c3]; rfl⟩
         have h0 : n14 = 0 := by have := beq_iff_eq.1 c2; omega
         subst h0
         go_wp2_with fail
         go_meet
         case rel => exact ⟨by rw [e1.out], ⟨rfl⟩⟩
        | true =>
         have e1 : As (bO = true) := ⟨by rw [HBO.out, c1, c2, c3]; rfl⟩
         have h0 : n14 = 0 := by have := beq_iff_eq.1 c2; omega
         have h1 : n15 = 0 := by have := beq_iff_eq.1 c3; omega
         subst h0
         subst h1
         go_wp2_with fail
         go_meet
         case rel => exact ⟨by rw [e1.out], ⟨rfl⟩⟩
     case rest =>
      obtain ⟨rfl, HW8⟩ := hcut
      have e8 := HW8.out
      subst e8
      clear HW8
      cases hO : bO with
      | true =>
       have hc1 : (w8.setCell ⟨w5.heap.size, 0, none⟩ (.int .i64 2)).cell? ⟨lb, 1, none⟩ = some (.slice Al lo.length cl) := HC1.out _ ((Below.refl _ _).setCell (p := ⟨w5.heap.size, 0, none⟩) (Nat.le_refl _) _)
       go_wp2_with fail
       refine (orders_a hc1).mono ?_
       rintro e0 w9 ⟨rfl, rfl⟩
       go_upto_region 18 with fail
       have HB9 : As (((w8.setCell ⟨w5.heap.size, 0, none⟩ (.int .i64 2)).setCell ⟨w5.heap.size, 3, none⟩ (.int .u32 ((lo.length : Int) + 1))).heap[w5.heap.size]? = some (.cells #[.int .i64 2, .int .u64 ((last : Int) + 1), .int .u32 1, .int .u32 ((lo.length : Int) + 1), .int .i64 0, .bool false, .int .i64 0, .int .i64 0, .int .u64 0, .slice none 0 0, .slice none 0 0] 41 (0, 0))) := ⟨(blk_put (blk_put HBX8 0 _) 3 _).trans rfl⟩
       have BC9 : As (Below w5.heap.size w8 ((w8.setCell ⟨w5.heap.size, 0, none⟩ (.int .i64 2)).setCell ⟨w5.heap.size, 3, none⟩ (.int .u32 ((lo.length : Int) + 1)))) := ⟨((Below.refl _ _).setCell (p := ⟨w5.heap.size, 0, none⟩) (Nat.le_refl _) _).setCell (p := ⟨w5.heap.size, 3, none⟩) (Nat.le_refl _) _⟩
       generalize (w8.setCell ⟨w5.heap.size, 0, none⟩ (.int .i64 2)).setCell ⟨w5.heap.size, 3, none⟩ (.int .u32 ((lo.length : Int) + 1)) = w9 at *
       clear k0 k1 k2 k3 k4 k5 k6 k7 k8 k9 k10 hfr hc1 m0 m1 m2 m3 m4
       obtain ⟨_, _, n3, n4⟩ := HMM.out w9 BC9.out
       have f9 := blk_frozen HB9.out 9
       have c9 := (blk_cell HB9.out 9).trans rfl
       have h59 : w5.heap.size < w9.heap.size := blk_lt HB9.out
       go_wp2_with fail
       refine (mod_a _ 20 w9 (by omega) (by omega)).mono ?_
       rintro e0 w10 ⟨k, rfl, hk, rfl⟩
       have hwk : IntKind.u8.wrap (k : Int) = k := by simp [IntKind.wrap, IntKind.bits, IntKind.signed]; omega
       go_upto_region 19 with fail
       have HB10 : As (((w9.setCell ⟨w5.heap.size, 9, none⟩ (.slice (some ⟨w9.heap.size, 0, none⟩) 1 1)).alloc (.cells #[.int .u8 k] 5)).heap[w5.heap.size]? = some (.cells #[.int .i64 2, .int .u64 ((last : Int) + 1), .int .u32 1, .int .u32 ((lo.length : Int) + 1), .int .i64 0, .bool false, .int .i64 0, .int .i64 0, .int .u64 0, .slice (some ⟨w9.heap.size, 0, none⟩) 1 1, .slice none 0 0] 41 (0, 0))) := ⟨blk_old ((blk_put HB9.out 9 _).trans rfl) _⟩
       have HK10 : As (((w9.setCell ⟨w5.heap.size, 9, none⟩ (.slice (some ⟨w9.heap.size, 0, none⟩) 1 1)).alloc (.cells #[.int .u8 k] 5)).heap[w9.heap.size]? = some (.cells #[.int .u8 k] 5 (0, 0))) := ⟨blk_at _ _ _ (by simp)⟩
       have BC10 : As (Below w5.heap.size w8 ((w9.setCell ⟨w5.heap.size, 9, none⟩ (.slice (some ⟨w9.heap.size, 0, none⟩) 1 1)).alloc (.cells #[.int .u8 k] 5))) := ⟨(BC9.out.setCell (p := ⟨w5.heap.size, 9, none⟩) (Nat.le_refl _) _).alloc (by simp; omega) _⟩
       have HK9 : As (w8.heap.size ≤ w9.heap.size) := ⟨BC9.out.size⟩
       generalize (w9.setCell ⟨w5.heap.size, 9, none⟩ (.slice (some ⟨w9.heap.size, 0, none⟩) 1 1)).alloc (.cells #[.int .u8 k] 5) = w10 at *
       clear f9 c9 n3 n4 hwk
       obtain ⟨_, _, n3, n4⟩ := HMM.out w10 BC10.out
       have f9 := blk_frozen HB10.out 10
       have c9 := (blk_cell HB10.out 10).trans rfl
       have h50 : w5.heap.size < w10.heap.size := blk_lt HB10.out
       go_wp2_with fail
       refine (mod_a _ 3 w10 (by omega) (by omega)).mono ?_
       rintro e0 w11 ⟨d, rfl, hd, rfl⟩
       have hwd : IntKind.u8.wrap (d : Int) = d := by simp [IntKind.wrap, IntKind.bits, IntKind.signed]; omega
       go_wp2_with fail
       have HB11 : As (((w10.setCell ⟨w5.heap.size, 10, none⟩ (.slice (some ⟨w10.heap.size, 0, none⟩) 1 1)).alloc (.cells #[.int .u8 d] 5)).heap[w5.heap.size]? = some (.cells (entC (ordE last lo.length k d) (some ⟨w9.heap.size, 0, none⟩) 1 (some ⟨w10.heap.size, 0, none⟩) 1).toArray 41 (0, 0))) := ⟨blk_old ((blk_put HB10.out 10 _).trans rfl) _⟩
       have HK11 : As (((w10.setCell ⟨w5.heap.size, 10, none⟩ (.slice (some ⟨w10.heap.size, 0, none⟩) 1 1)).alloc (.cells #[.int .u8 d] 5)).heap[w10.heap.size]? = some (.cells #[.int .u8 d] 5 (0, 0))) := ⟨blk_at _ _ _ (by simp)⟩
       have HK12 : As (((w10.setCell ⟨w5.heap.size, 10, none⟩ (.slice (some ⟨w10.heap.size, 0, none⟩) 1 1)).alloc (.cells #[.int .u8 d] 5)).heap[w9.heap.size]? = some (.cells #[.int .u8 k] 5 (0, 0))) := ⟨blk_old (blk_far HK10.out (by omega) _) _⟩
       have BC11 : As (Below w5.heap.size w8 ((w10.setCell ⟨w5.heap.size, 10, none⟩ (.slice (some ⟨w10.heap.size, 0, none⟩) 1 1)).alloc (.cells #[.int .u8 d] 5))) := ⟨(BC10.out.setCell (p := ⟨w5.heap.size, 10, none⟩) (Nat.le_refl _) _).alloc (by simp; omega) _⟩
       have HK13 : As (w8.heap.size ≤ w10.heap.size) := ⟨BC10.out.size⟩
       go_meet
       case rel => exact ⟨ordE last lo.length k d, _, ⟨ordE_ok _ _ _ _ (by omega) (by omega) (by omega) (by omega), rfl, ordE_todo _ _ _ _ (by omega) (by show d < 3; omega)⟩, HB11, ⟨_, _, _, _, rfl, bytes_one HK12.out (by omega), bytes_one HK11.out (by omega), Nat.le_refl _, Nat.le_refl _, fun _ q o e => by injection e with e; injection e with e; subst e; exact HK9.out, fun _ q o e => by injection e with e; injection e with e; subst e; exact HK13.out⟩, ⟨HT.out _ BC11.out⟩, ⟨BC11.out.size⟩⟩
      | false =>
       have hno : n14 = 0 → n15 = 0 → False := fun a b => by
        have h := HBO.out
        rw [hO, a, b] at h
        simp at h
       have HNO := As.mk hno
       clear hno hO
       go_upto_region 20 with fail
       go_cut [145] from 146 to 161 (fun v145 wx => v145 = .bool bI ∧ As (w8 = wx))
       case first =>
        cases c1 : decide (l[i].kind ≤ 8) with
        | true =>
         cases c2 : decide (0 < (n14 : Int)) with
         | true =>
          have e1 : As (bI = true) := ⟨by rw [HBI.out, c1, c2]; rfl⟩
          have c4 : ((n14 : Int) == 0) = false := beq_eq_false_iff_ne.2 (by have := of_decide_eq_true c2; omega)
          have c5 : ¬ n14 = 0 := by have := of_decide_eq_true c2; omega
          have c6 : 0 < n14 := by omega
          go_wp2_with fail
          go_meet
          case rel => exact ⟨by rw [e1.out], ⟨rfl⟩⟩
         | false =>
          have h0 : n14 = 0 := by have := of_decide_eq_false c2; omega
          cases c3 : ((n15 : Int) == 0) with
          | false =>
           have e1 : As (bI = false) := ⟨by rw [HBI.out, c1, c2, c3]; rfl⟩
           subst h0
           go_wp2_with fail
           go_meet
           case rel => exact ⟨by rw [e1.out], ⟨rfl⟩⟩
          | true =>
           have h1 : n15 = 0 := by have := beq_iff_eq.1 c3; omega
           exact (HNO.out h0 h1).elim
        | false =>
         cases c3 : ((n15 : Int) == 0) with
         | false =>
          have e1 : As (bI = false) := ⟨by rw [HBI.out, c1, c3]; rfl⟩
          go_wp2_with fail
          go_meet
          case rel => exact ⟨by rw [e1.out], ⟨rfl⟩⟩
         | true =>
          have e1 : As (bI = true) := ⟨by rw [HBI.out, c1, c3]; rfl⟩
          have h1 : n15 = 0 := by have := beq_iff_eq.1 c3; omega
          subst h1
          go_wp2_with fail
          go_meet
          case rel => exact ⟨by rw [e1.out], ⟨rfl⟩⟩
       case rest =>
        obtain ⟨rfl, HW8⟩ := hcut
        have e8 := HW8.out
        subst e8
        clear HW8
        cases hI : bI with
        | true =>
         have hn14 : 1 ≤ n14 := by
          rcases Nat.eq_zero_or_pos n14 with a | a
          ·exfalso
           have h := HBI.out
           rw [hI, a] at h
           simp at h
           exact HNO.out a h
          ·exact a
         clear hI
         go_wp2_with fail
         refine (mod_a _ _ w8 (by omega) (by omega)).mono ?_
         rintro e0 w9 ⟨m, rfl, hm, rfl⟩
         obtain ⟨g14, u, rfl, hU, hr14⟩ := HD9.out m (by omega)
         have HU := As.mk hU
         clear hU
         have HR14 := As.mk hr14
         clear hr14
         go_upto_region 22 with (refine wpList_load_mid rfl 51 (.tmp 171) rfl g14 (m * 4) rfl _ _ HR14.out Tryz.underlying51 rfl size51 ?_)
         have HB9 := As.mk (blk_old HBX8 (.cells #[.int .u32 u.no, .int .i64 u.d.st, .bool u.d.undo, .int .i64 u.d.tr] 51))
         have h16 : (w8.alloc (.cells #[.int .u32 u.no, .int .i64 u.d.st, .bool u.d.undo, .int .i64 u.d.tr] 51)).heap[w8.heap.size]? = some (.cells #[.int .u32 u.no, .int .i64 u.d.st, .bool u.d.undo, .int .i64 u.d.tr] 51 (0, 0)) := blk_new w8 _
         have BC9 : As (Below w5.heap.size w8 (w8.alloc (.cells #[.int .u32 u.no, .int .i64 u.d.st, .bool u.d.undo, .int .i64 u.d.tr] 51))) := ⟨(Below.refl _ _).alloc (by omega) _⟩
         generalize w8.alloc (.cells #[.int .u32 u.no, .int .i64 u.d.st, .bool u.d.undo, .int .i64 u.d.tr] 51) = w9 at *
         clear k0 k1 k2 k3 k4 k5 k6 k7 k8 k9 k10 hfr m0 m1 m2 m3 m4
         have k1 := (blk_cell HB9.out 1).trans rfl
         have j0 := (blk_cell h16 0).trans rfl
         have j1 := (blk_cell h16 1).trans rfl
         have j2 := (blk_cell h16 2).trans rfl
         have j3 := (blk_cell h16 3).trans rfl
         have h59 : w5.heap.size < w9.heap.size := blk_lt HB9.out
         have HONE : As (∀ v ∈ entC (intE last u) none 0 none 0, v.oneCell' = true) := ⟨agg11_one rfl rfl rfl rfl rfl rfl rfl rfl rfl rfl rfl⟩
         go_wp2_with (refine wpList_storeC rfl 41 (.tmp 13) (.tmp 186) rfl w5.heap.size 41 (entC (intE last u) none 0 none 0) _ rfl rfl HB9.out rfl size41 HONE.out ?_; intro wf q1 q2 q3 q4)
         have BCF : As (Below w5.heap.size w8 wf) := ⟨BC9.out.trans (q2 _ (Nat.le_refl _))⟩
         have HBF := As.mk q1
         clear q1 q2 q3 q4
         have HIO := As.mk (intE_ok LO.out last (by omega) HU.out)
         go_wp2_with fail
         go_meet
         case rel => exact ⟨intE last u, _, ⟨HIO.out.1, rfl, HIO.out.2⟩, HBF, ⟨_, _, _, _, rfl, nilBytes _ _, nilBytes _ _, Nat.le_refl _, Nat.le_refl _, fun h => absurd rfl h, fun h => absurd rfl h⟩, ⟨HT.out _ BCF.out⟩, ⟨BCF.out.size⟩⟩
        | false =>
         have hn15 : 1 ≤ n15 := by
          rcases Nat.eq_zero_or_pos n15 with a | a
          ·exfalso
           have h := HBI.out
           rw [hI, a] at h
           simp at h
          ·exact a
         clear hI
         go_wp2_with fail
         refine (mod_a _ _ w8 (by omega) (by omega)).mono ?_
         rintro e0 w9 ⟨m, rfl, hm, rfl⟩
         obtain ⟨g14, u, rfl, hU, hr14⟩ := HA9.out m (by omega)
         have HU := As.mk hU
         clear hU
         have HR14 := As.mk hr14
         clear hr14
         go_upto_region 14 with (refine wpList_load_mid rfl 51 (.tmp 81) rfl g14 (m * 4) rfl _ _ HR14.out Tryz.underlying51 rfl size51 ?_)
         have HB9 := As.mk (blk_old HBX8 (.cells #[.int .u32 u.no, .int .i64 u.d.st, .bool u.d.undo, .int .i64 u.d.tr] 51))
         have h16 : (w8.alloc (.cells #[.int .u32 u.no, .int .i64 u.d.st, .bool u.d.undo, .int .i64 u.d.tr] 51)).heap[w8.heap.size]? = some (.cells #[.int .u32 u.no, .int .i64 u.d.st, .bool u.d.undo, .int .i64 u.d.tr] 51 (0, 0)) := blk_new w8 _
         have BC9 : As (Below w5.heap.size w8 (w8.alloc (.cells #[.int .u32 u.no, .int .i64 u.d.st, .bool u.d.undo, .int .i64 u.d.tr] 51))) := ⟨(Below.refl _ _).alloc (by omega) _⟩
         generalize w8.alloc (.cells #[.int .u32 u.no, .int .i64 u.d.st, .bool u.d.undo, .int .i64 u.d.tr] 51) = w9 at *
         clear k0 k1 k2 k3 k4 k5 k6 k7 k8 k9 k10 hfr m0 m1 m2 m3 m4
         obtain ⟨_, _, _, n4⟩ := HMM.out w9 BC9.out
         have k1 := (blk_cell HB9.out 1).trans rfl
         have hq8 : q < w5.heap.size := by have := HW5.out; omega
         refine wp_region_plan_kept (fun w' => w'.cell? ⟨w5.heap.size, 1, none⟩ = some (.int .u64 ((last : Int) + 1)) ∧ w'.heap[w8.heap.size]? = some (.cells #[.int .u32 u.no, .int .i64 u.d.st, .bool u.d.undo, .int .i64 u.d.tr] 51 (0, 0)) ∧ w'.cell? ⟨q, o + i * 5 + 4, none⟩ = some (.int .i64 l[i].plan)) [(1,0),(0,1),(1,2),(0,3),(1,4),(1,5),(0,6),(1,7),(1,8),(0,9),(1,10),(1,11),(0,12),(1,13),(1,14),(1,15),(1,16),(0,17),(2,18),(1,19),(1,20),(2,21)] (by kernel_rfl) (by kernel_rfl) (by kernel_rfl) (by kernel_rfl) (fun _ _ _ _ _ h => h) ⟨k1, h16, n4⟩ ?_
         simp only [tagged, List.filterMap_cons, List.filterMap_nil, List.getElem?_toArray, List.getElem?_cons_succ, List.getElem?_cons_zero, Option.map_some]
         have SK : As (∀ w' : World, w'.heap = w9.heap → w'.cell? ⟨w5.heap.size, 1, none⟩ = some (.int .u64 ((last : Int) + 1)) ∧ w'.heap[w8.heap.size]? = some (.cells #[.int .u32 u.no, .int .i64 u.d.st, .bool u.d.undo, .int .i64 u.d.tr] 51 (0, 0)) ∧ w'.cell? ⟨q, o + i * 5 + 4, none⟩ = some (.int .i64 l[i].plan)) := ⟨fun w' hw => ⟨by rw [World.cell?_of_block (w := w9) (a := ⟨w5.heap.size, 1, none⟩) (by rw [hw])]; exact k1, by rw [hw]; exact h16, by rw [World.cell?_of_block (w := w9) (a := ⟨q, o + i * 5 + 4, none⟩) (by rw [hw])]; exact n4⟩⟩
         have H16 := As.mk h16
         clear k1 h16 n4
         iterate 1 (with_reducible refine wpKept_sure (fun K hK => ?_); go_simp; with_reducible refine hK _ ?_; clear hK K)
         refine wpKept_take (fun K hK => ?_)
         rw [if_pos (by rfl)]
         apply Exists.intro
         refine ⟨fun w' hw' => ?_, hK _ ?_⟩
         ·have j0 := hw'.1
          go_simp
          rfl
         clear hK K
         iterate 1 (with_reducible refine wpKept_sure (fun K hK => ?_); go_simp; with_reducible refine hK _ ?_; clear hK K)
         refine wpKept_take (fun K hK => ?_)
         rw [if_pos (by rfl)]
         apply Exists.intro
         refine ⟨fun w' hw' => ?_, hK _ ?_⟩
         ·have j0 := (blk_cell hw'.2.1 0).trans rfl
          go_simp
          rfl
         clear hK K
         iterate 2 (with_reducible refine wpKept_sure (fun K hK => ?_); go_simp; with_reducible refine hK _ ?_; clear hK K)
         refine wpKept_take (fun K hK => ?_)
         rw [if_pos (by rfl)]
         apply Exists.intro
         refine ⟨fun w' hw' => ?_, hK _ ?_⟩
         ·have j0 := (blk_cell hw'.2.1 1).trans rfl
          go_simp
          rfl
         clear hK K
         iterate 2 (with_reducible refine wpKept_sure (fun K hK => ?_); go_simp; with_reducible refine hK _ ?_; clear hK K)
         refine wpKept_take (fun K hK => ?_)
         rw [if_pos (by rfl)]
         apply Exists.intro
         refine ⟨fun w' hw' => ?_, hK _ ?_⟩
         ·have j0 := (blk_cell hw'.2.1 2).trans rfl
          go_simp
          rfl
         clear hK K
         iterate 2 (with_reducible refine wpKept_sure (fun K hK => ?_); go_simp; with_reducible refine hK _ ?_; clear hK K)
         refine wpKept_take (fun K hK => ?_)
         rw [if_pos (by rfl)]
         apply Exists.intro
         refine ⟨fun w' hw' => ?_, hK _ ?_⟩
         ·have j0 := (blk_cell hw'.2.1 3).trans rfl
          go_simp
          rfl
         clear hK K
         iterate 4 (with_reducible refine wpKept_sure (fun K hK => ?_); go_simp; with_reducible refine hK _ ?_; clear hK K)
         refine wpKept_take (fun K hK => ?_)
         rw [if_pos (by rfl)]
         apply Exists.intro
         refine ⟨fun w' hw' => ?_, hK _ ?_⟩
         ·have j0 := hw'.2.2
          go_simp
          rfl
         clear hK K
         have HONE : As (∀ c : Nat, ∀ v ∈ entC (resE last u c) none 0 none 0, v.oneCell' = true) := ⟨fun c => agg11_one rfl rfl rfl rfl rfl rfl rfl rfl rfl rfl rfl⟩
         with_reducible refine wpKept_next (fun K hK => ?_)
         go_simp
         refine (mod_a _ 3 w9.drew (by omega) (by omega)).mono ?_
         rintro e0 w10 ⟨cd, rfl, hcd, rfl⟩
         refine hK _ _ (SK.out _ rfl) ?_
         clear hK K
         have hw1c : IntKind.i64.wrap (1 + (cd : Int)) = 1 + (cd : Int) := by simp [IntKind.wrap, IntKind.bits, IntKind.signed]; omega
         iterate 2 (with_reducible refine wpKept_sure (fun K hK => ?_); go_simp; with_reducible refine hK _ ?_; clear hK K)
         with_reducible refine wpKept_next (fun K hK => ?_)
         rw [if_pos (by rfl)]
         refine wp_storeC 41 (.tmp 13) (.tmp 103) rfl w5.heap.size 41 (entC (resE last u cd) none 0 none 0) _ rfl rfl HB9.out rfl size41 (HONE.out cd) ?_
         intro wf q1 q2 q3 q4
         have BCF : As (Below w5.heap.size w8 wf) := ⟨BC9.out.drew.trans (q2 _ (Nat.le_refl _))⟩
         have HBF := As.mk q1
         refine hK _ _ ⟨(blk_cell q1 1).trans rfl, (q4 _ (by omega)).trans H16.out, (HMM.out wf BCF.out).2.2.2⟩ ?_
         clear hK K q1 q2 q3 q4
         refine wpKept_nil ?_
         have HIO := As.mk (resE_ok LO.out last cd (by omega) (by omega) HU.out)
         go_wp2_with fail
         go_meet
         case rel => exact ⟨resE last u cd, _, ⟨HIO.out.1, rfl, HIO.out.2⟩, HBF, ⟨_, _, _, _, rfl, nilBytes _ _, nilBytes _ _, Nat.le_refl _, Nat.le_refl _, fun h => absurd rfl h, fun h => absurd rfl h⟩, ⟨HT.out _ BCF.out⟩, ⟨BCF.out.size⟩⟩
    case rest =>
     obtain ⟨e, cs, HE, HBC, HEA, HC, HSC⟩ := hcut
     have HCLB := As.mk (HX13.out lb (.inr (.inr (.inl rfl))))
     have HCMB := As.mk (HX13.out mb (.inr (.inr (.inr (.inl rfl)))))
     obtain ⟨ak, ck, ad, cd, rfl, hea⟩ := HEA.out
     obtain ⟨k0, k1, k2, k3, k4, k5, k6, k7, k8, k9, k10⟩ := cells11 HBC.out
     clear hea
     go_upto_region 23 with fail
     go_cut [196] from 187 to 195 (fun v196 wd => v196 = .bool false ∧ As (TopI W wd db jb lb mb (i + 1) sv))
     case first =>
      rcases HE.out.2.2 with ⟨l', hst⟩ | ⟨k, d, e1, e2, e3, e4, e5, e6, e7⟩
      ·have HST := As.mk hst
       clear hst
       go_wp2_with fail
       refine (apply_ok HC.out.led planL_ok LO.out HE.out.1 HE.out.2.1 (by omega) HEA.out (fun k hk => ⟨by have := HCLB.out; have := HSZ8.out; omega, by have := HCMB.out; have := HSZ8.out; omega⟩) HST.out).mono ?_
       rintro e0 w11 ⟨rfl, hL⟩
       have HL := As.mk hL
       obtain ⟨_, _, _, _, _, hF⟩ := hL
       have HBC2 := As.mk ((hF.block w5.heap.size (blk_lt HBC.out) (fun e => by have := HX13.out w5.heap.size (e.elim (fun e => .inr (.inl e)) (fun e => e.elim (fun e => .inr (.inr (.inl e))) (fun e => .inr (.inr (.inr (.inl e)))))); omega)).trans HBC.out)
       have HEA2 := As.mk (HEA.out.keep (W' := w11) (fun k hk hl => hF.block k hl (fun e => by have := HX13.out k (e.elim (fun e => .inr (.inl e)) (fun e => e.elim (fun e => .inr (.inr (.inl e))) (fun e => .inr (.inr (.inr (.inl e)))))); have := HSZ8.out; omega)) hF.low.size)
       have HJD := As.mk (HC.out.jd hF)
       clear k0 k1 k2 k3 k4 k5 k6 k7 k8 k9 k10 hF
       obtain ⟨k0, k1, k2, k3, k4, k5, k6, k7, k8, k9, k10⟩ := cells11 HBC2.out
       have HSM := As.mk (HC.out.inv.small (by have := HC.out.n; omega))
       have HWL : As (s.wait.length < 800000 ∧ 1 ≤ nextL segs ∧ nextL segs < 100000 ∧ (nextL segs : Int) = (last : Int) + 1) := ⟨by have := HC.out.inv.wl; have := HC.out.n; have := HC.out.inv.nx; have := HC.out.lst; exact ⟨by omega, by omega, by omega, by omega⟩⟩
       go_wp2_with fail
       refine (append_a HJD.out.1 HJD.out.2.1 HC.out.inv.lit HJD.out.2.2.1 HC.out.inv.ok HJD.out.2.2.2.1 HE.out.1 (by rw [HWL.out.2.2.2]; exact HE.out.2.1) (by have := HSM.out; omega) HWL.out.2.1 HWL.out.2.2.1 HEA2.out HWL.out.1).mono ?_
       rintro e0 w12 ⟨OD', OS', vs', rfl, q1, q2, q3, q4, q5, q6⟩
       obtain ⟨lv', y, OL', hn⟩ := HC.out.step HE.out.1 HE.out.2.1 HST.out hl2 HL.out q1 q2 q3 q4 q5 q6
       have HN : As (TopI W w12 db jb lb mb (i + 1) sv) := ⟨_, _, _, _, _, _, _, _, _, _, _, _, _, _, _, _, _, hn⟩
       clear q1 q2 q3 q4 q5 q6 hn
       go_wp2_with fail
       go_meet
       case rel => exact ⟨rfl, HN⟩
      ·have HDU := As.mk (And.intro e1 (And.intro e2 (And.intro e3 (And.intro e4 (And.intro e5 (And.intro e6 e7))))))
       clear e1 e2 e3 e4 e5 e6 e7
       go_wp2_with fail
       refine (apply_dup HC.out.led planL_ok LO.out HE.out.1 HE.out.2.1 (by omega) HEA.out HDU.out.1 HDU.out.2.1 HDU.out.2.2.1 HDU.out.2.2.2.1 HDU.out.2.2.2.2.1 HDU.out.2.2.2.2.2.1 HDU.out.2.2.2.2.2.2).mono ?_
       rintro e0 w11 ⟨rfl, ⟨y, hy⟩, hF⟩
       have HN : As (TopI W w11 db jb lb mb (i + 1) sv) := ⟨_, _, _, _, _, _, _, _, _, _, _, _, _, _, _, _, _, HC.out.dup hy hF⟩
       clear hy hF
       go_wp2_with fail
       go_meet
       case rel => exact ⟨rfl, HN⟩
     case rest =>
      obtain ⟨rfl, HT9⟩ := hcut
      clear k0 k1 k2 k3 k4 k5 k6 k7 k8 k9 k10
      obtain ⟨segs, safe, s, lo, ls, OD, OS, OP, OL, OE, vs, pv, lv, sf, last, tk, nt, h9⟩ := HT9.out
      have H9 := As.mk h9
      clear h9
      obtain ⟨q, o, rfl, hq, m0, m1, m2, m3, m4⟩ := HMV.out wc H9.out.low
      obtain ⟨kb, hkb⟩ : ∃ kb, ((l[i].who).tmod 4 == 0) = kb := ⟨_, rfl⟩
      cases kb with
      | true =>
       go_wp2_with fail
       refine (flush_j H9.out.j H9.out.d H9.out.inv.lit H9.out.v H9.out.inv.ok H9.out.ap).mono ?_
       rintro e0 w13 ⟨rfl, OD', sf', q1, q2, q3, q4, q5, q6⟩
       have HF := As.mk (And.intro q1 (And.intro q2 (And.intro q3 (And.intro q4 (And.intro q5 q6)))))
       clear q1 q2 q3 q4 q5 q6
       have HSM := As.mk (H9.out.inv.small (by have := H9.out.n; omega))
       go_wp2_with fail
       refine (from_a HF.out.1 HF.out.2.2.1 H9.out.inv.ok (by have := HSM.out; omega) (by have := H9.out.n; omega)).mono ?_
       rintro e0 w14 ⟨v11, rfl, q1, q2⟩
       have HN : As (TopI W w14 db jb lb mb (i + 1) v11) := ⟨_, _, _, _, _, _, _, _, _, _, _, _, _, _, _, _, _, H9.out.flush HF.out.1 HF.out.2.1 HF.out.2.2.1 HF.out.2.2.2.1 HF.out.2.2.2.2.1 HF.out.2.2.2.2.2 q1 q2⟩
       clear q1 q2
       go_wp2_with fail
       go_roundg (min l.length 100 - (i + 1))
       case measure => have := HK.out; omega
       case rel => exact ⟨i + 1, _, by go_num, rfl, ⟨rfl⟩, ⟨by omega⟩, HN⟩
      | false =>
       have HN : As (TopI W wc db jb lb mb (i + 1) sv) := ⟨_, _, _, _, _, _, _, _, _, _, _, _, _, _, _, _, _, H9.out⟩
       go_wp2_with fail
       go_roundg (min l.length 100 - (i + 1))
       case measure => have := HK.out; omega
       case rel => exact ⟨i + 1, _, by go_num, rfl, ⟨rfl⟩, ⟨by omega⟩, HN⟩
   ·as_aux_lemma =>
     rw [decide_eq_false hlt]
     have HIL : As (i ≤ 100) := ⟨by have := HI.out; omega⟩
     obtain ⟨segs, safe, s, lo, ls, OD, OS, OP, OL, OE, vs, pv, lv, sf, last, tk, nt, h⟩ := HT.out
     have HH := As.mk h
     clear h hlt HT
     go_wp2_with fail
     refine (mod_a ct 3 _ (by omega) (by omega)).mono ?_
     rintro e0 w19 ⟨m, rfl, hm, rfl⟩
     go_wp2_with fail
     refine (crash_a HH.out.d 0 m (by have := HH.out.inv.wl; have := HH.out.n; have := HIL.out; omega) (by omega)).mono ?_
     rintro e0 w20 ⟨rfl, q1, q2⟩
     have HS20 := As.mk q2.low.size
     have HC := As.mk (HH.out.crash HIL.out (by omega) q1 q2)
     clear q1 q2
     go_wp2_with fail
     refine (open_a HC.out.1 HC.out.2.1 HC.out.2.2.1 HC.out.2.2.2.1 (fun k hk => hk.2) (by show 0 < 900000; omega)).mono ?_
     rintro e0 w21 ⟨jc, vs2, sf2, rfl, q1, q2, q3, q4, _⟩
     have HA := As.mk (HH.out.again HS20.out HC.out.2.2.2.2.1 HC.out.2.2.2.2.2 q4)
     have HJ := As.mk (And.intro q2 q3)
     have HOK := As.mk HC.out.2.2.2.1
     have HNS := As.mk (Nat.le_trans HH.out.ns HIL.out)
     clear q1 q2 q3 q4 HC
     go_wp2_with fail
     refine (from_a HJ.out.1 HJ.out.2 HOK.out (by have := HH.out.inv.small (by have := HH.out.n; have := HIL.out; omega); omega) (by have := HNS.out; omega)).mono ?_
     rintro e0 w22 ⟨v20, rfl, q1, q2⟩
     have HR20 := As.mk q1
     have HRS := As.mk (HA.out.1.keep (W' := w22) (fun k _ hk => q2.block k hk) q2.size)
     have HLW := As.mk (HA.out.2.trans (q2.mono HA.out.2.size))
     have HFS := As.mk HH.out.fs
     clear q1 q2 HA HJ HOK HH HS20
     obtain ⟨A20, c20, rfl⟩ := HR20.out.form
     obtain ⟨A11, c11, rfl⟩ := HRS.out.form
     generalize allE safe = es at *
     go_wp2_with fail
     refine (plans_a w22).mono ?_
     rintro e0 w23 ⟨pv1, rfl, q1, q2⟩
     have P1 := As.mk q1
     have B23 := As.mk q2
     clear q1 q2
     go_wp2_with fail
     refine (lnew_a P1.out planL_ok (by decide)).mono ?_
     rintro e0 w24 ⟨lb2, mb2, pv2, OP2, rfl, q1, q2, q3, q4, q5⟩
     have L2 := As.mk (And.intro q1 (And.intro q2 (And.intro q3 (And.intro q4 q5))))
     clear q1 q2 q3 q4 q5
     go_wp2_with fail
     refine (plans_a w24).mono ?_
     rintro e0 w25 ⟨pv3, rfl, q1, q2⟩
     have P3 := As.mk (And.intro q1 q2)
     clear q1 q2
     go_wp2_with fail
     refine (rnew_a P3.out.1 planL_ok (by decide)).mono ?_
     rintro e0 w26 ⟨lc, rfl, q1, q2, q3⟩
     have HREP := As.mk (rep_new (es := es) B23.out L2.out.1 L2.out.2.1 L2.out.2.2.1 L2.out.2.2.2.1 L2.out.2.2.2.2 P3.out.1 P3.out.2 q1 q2 q3)
     clear q1 q2 q3 P1 B23 L2 P3
     go_wp2_with fail
     go_loopg [25] es.length (fun gk v25 w' => ∃ j : Nat, v25 = .int .i64 j ∧ As (gk = es.length - j) ∧ As (j ≤ es.length) ∧ As (RepI w22 w' es lb2 mb2 lc j))
     case atStart => exact ⟨0, rfl, ⟨rfl⟩, ⟨Nat.zero_le _⟩, HREP⟩
     case round =>
      obtain ⟨j, rfl, HK2, HI2, HT2⟩ := hrel
      obtain ⟨l2, OP2', OL2, OP3, OL3, pv2', lv2, pv3', lv3, tv3, bs, tk2, nt2, tk3, nt3, h2⟩ := HT2.out
      have H2 := As.mk h2
      clear h2 HT2
      by_cases hlt2 : j < es.length
      ·obtain ⟨li, a1, _, a3⟩ := HFS.out.at j (Nat.le_of_lt hlt2)
       obtain ⟨l', a4, a5, a6, a7⟩ := a3 hlt2
       obtain rfl := a1.func l2 H2.out.f
       have HST := As.mk (And.intro a4 (And.intro a5 (And.intro a6 a7)))
       have LO := As.mk (a1.lok planL_ok (by rw [List.length_take]; have := HNS.out; omega))
       clear a1 a3 a4 a5 a6 a7
       obtain ⟨g, x, e20, hgl, hx, hr⟩ := HR20.out.at' (List.getElem?_eq_getElem hlt2)
       subst e20
       have hg22 : g < w22.heap.size := hgl
       generalize es[j] = e at *
       obtain ⟨ak, ck, ad, cd, rfl, hx'⟩ := hx
       have HEN : As (∀ w', Below w22.heap.size w22 w' → EntAt w' (fun k => w21.heap.size ≤ k ∧ k < w22.heap.size) e (entC e ak ck ad cd)) := ⟨fun w' hb => EntAt.keep (W := w22) ⟨ak, ck, ad, cd, rfl, hx'⟩ (fun k _ hk => hb.block k hk) hb.size⟩
       have HCE : As (∀ w', Below w22.heap.size w22 w' → w'.rangeAt g (j * 11) (entC e ak ck ad cd)) := ⟨fun w' hb => range_heap hr (hb.block g hg22)⟩
       clear hx' hr
       have hoe : ∀ k, (w21.heap.size ≤ k ∧ k < w22.heap.size) → k ≠ lb2 ∧ k ≠ mb2 ∧ k ≠ lc := fun k hk => ⟨fun e => by have := H2.out.lo lb2 (.inr (.inr (.inl rfl))); omega, fun e => by have := H2.out.lo mb2 (.inr (.inr (.inr (.inl rfl)))); omega, fun e => by have := H2.out.lo lc (.inr (.inr (.inr (.inr (.inr (.inr rfl)))))); omega⟩
       have HOE := As.mk hoe
       clear hoe
       have hj1 : j < 100 := by have := HNS.out; omega
       have k0 := HCE.out _ H2.out.low 0 _ rfl
       have k1 := HCE.out _ H2.out.low 1 _ rfl
       have k2 := HCE.out _ H2.out.low 2 _ rfl
       have k3 := HCE.out _ H2.out.low 3 _ rfl
       have k4 := HCE.out _ H2.out.low 4 _ rfl
       have k5 := HCE.out _ H2.out.low 5 _ rfl
       have k6 := HCE.out _ H2.out.low 6 _ rfl
       have k7 := HCE.out _ H2.out.low 7 _ rfl
       have k8 := HCE.out _ H2.out.low 8 _ rfl
       have k9 := HCE.out _ H2.out.low 9 _ rfl
       have k10 := HCE.out _ H2.out.low 10 _ rfl
       rw [Nat.add_zero] at k0
       go_wp2_with fail
       refine (apply_ok H2.out.led planL_ok LO.out HST.out.2.2.1 HST.out.2.2.2 (by omega) (HEN.out _ H2.out.low) (fun k hk => ⟨(HOE.out k hk).1, (HOE.out k hk).2.1⟩) HST.out.2.1).mono ?_
       rintro e0 w31 ⟨rfl, hL⟩
       have HL := As.mk hL
       obtain ⟨_, _, _, _, _, hF⟩ := hL
       have HM2 := As.mk (H2.out.mid hF)
       clear hF k0 k1 k2 k3 k4 k5 k6 k7 k8 k9 k10
       have k0 := HCE.out _ HM2.out.2 0 _ rfl
       have k1 := HCE.out _ HM2.out.2 1 _ rfl
       have k2 := HCE.out _ HM2.out.2 2 _ rfl
       have k3 := HCE.out _ HM2.out.2 3 _ rfl
       have k4 := HCE.out _ HM2.out.2 4 _ rfl
       have k5 := HCE.out _ HM2.out.2 5 _ rfl
       have k6 := HCE.out _ HM2.out.2 6 _ rfl
       have k7 := HCE.out _ HM2.out.2 7 _ rfl
       have k8 := HCE.out _ HM2.out.2 8 _ rfl
       have k9 := HCE.out _ HM2.out.2 9 _ rfl
       have k10 := HCE.out _ HM2.out.2 10 _ rfl
       rw [Nat.add_zero] at k0
       go_wp2_with fail
       refine (rapply_ok HM2.out.1 planL_ok LO.out HST.out.2.2.1 HST.out.2.2.2 (by omega) (HEN.out _ HM2.out.2) (fun k hk => (HOE.out k hk).2.2) HST.out.2.1).mono ?_
       rintro e0 w32 ⟨rfl, hR⟩
       have HN2 := As.mk (H2.out.step HST.out.1 HL.out hR)
       clear hR
       go_wp2_with fail
       go_roundg (es.length - (j + 1))
       case measure => have := HK2.out; omega
       case rel => exact ⟨j + 1, by go_num, ⟨rfl⟩, ⟨by omega⟩, HN2⟩
      ·have hj : j = es.length := by have := HI2.out; omega
       subst hj
       have LO := As.mk (H2.out.f.lok planL_ok (by rw [List.length_take]; have := HNS.out; omega))
       obtain ⟨A2, c2, rfl⟩ := H2.out.led.slice
       obtain ⟨A3, c3, rfl⟩ := H2.out.rled.slice
       have HW2 : As (∀ w, Below wr.heap.size wr w → Below w22.heap.size w22 w) := ⟨fun w hb => H2.out.low.trans (hb.mono H2.out.low.size)⟩
       have HK2' : As (∀ w, Below wr.heap.size wr w → _) := ⟨fun w hb => H2.out.keep (w1 := w) hb⟩
       have C20 : As (∀ w, Below wr.heap.size wr w → Calls Tryz.prog 20 #[.slice A20 es.length c20, .slice A11 es.length c11] w fun e W' => e = .returned (.bool true) ∧ Below w.heap.size w W') := ⟨fun w hb => sames_a (HR20.out.keep (fun k _ hk => (HW2.out w hb).block k hk) (HW2.out w hb).size) (HRS.out.keep (fun k _ hk => (HW2.out w hb).block k hk) (HW2.out w hb).size) (by have := HNS.out; omega)⟩
       have C11 : As (∀ w, Below wr.heap.size wr w → Calls Tryz.prog 11 #[.pointer (some ⟨lb2, 0, none⟩)] w fun e W' => e = .returned (.int .i64 l2.length) ∧ Below w.heap.size w W') := ⟨fun w hb => (orders_a (HK2'.out w hb).led.cells.2.1).mono (fun e W' h => ⟨h.1, h.2 ▸ Below.refl _ _⟩)⟩
       have C9 : As (∀ w, Below wr.heap.size wr w → Calls Tryz.prog 9 #[.pointer (some ⟨lb2, 0, none⟩)] w fun e W' => SomeDue w W' e (colL nextS 1 l2)) := ⟨fun w hb => due_a (HK2'.out w hb).led planL_ok LO.out⟩
       have C10 : As (∀ w, Below wr.heap.size wr w → Calls Tryz.prog 10 #[.pointer (some ⟨lb2, 0, none⟩)] w fun e W' => SomeDue w W' e (colL askedS 1 l2)) := ⟨fun w hb => asked_a (HK2'.out w hb).led LO.out⟩
       have C22 : As (∀ w, Below wr.heap.size wr w → Calls Tryz.prog 22 #[.pointer (some ⟨lc, 0, none⟩)] w fun e W' => SomeDue w W' e (colL nextS 1 l2)) := ⟨fun w hb => rdue_a (HK2'.out w hb).rled planL_ok LO.out⟩
       have C23 : As (∀ w, Below wr.heap.size wr w → Calls Tryz.prog 23 #[.pointer (some ⟨lc, 0, none⟩)] w fun e W' => SomeDue w W' e (colL askedS 1 l2)) := ⟨fun w hb => rasked_a (HK2'.out w hb).rled LO.out⟩
       have CS : As (∀ w, Below wr.heap.size wr w → w.cell? ⟨lc, 1, none⟩ = some (.slice A3 l2.length c3)) := ⟨fun w hb => (blk_cell (HK2'.out w hb).rled.blk 1).trans rfl⟩
       have HLE : As ((colL nextS 1 l2).length < 1000 ∧ (colL askedS 1 l2).length < 1000) := ⟨by have := LO.out.len; have := colL_len nextS l2 1; have := colL_len askedS l2 1; exact ⟨by omega, by omega⟩⟩
       have HLX : As (Below W.heap.size W wr) := ⟨HLW.out.trans (H2.out.low.mono HLW.out.size)⟩
       clear HK2' H2 HR20 HRS HLW HW2
       generalize l2.length = n2 at *
       go_upto_region 41 with fail
       refine wp_region_plan_kept (fun w' => w'.cell? ⟨lc, 1, none⟩ = some (.slice A3 n2 c3)) [(1,0),(1,1),(2,2),(1,3),(1,4),(1,6),(1,7),(1,8),(0,9),(1,10),(2,5),(1,11),(1,12),(1,13),(1,14),(1,16),(2,15),(2,17),(2,18),(1,19),(1,20),(1,21),(1,23),(2,22),(2,24),(2,25),(1,26),(1,27)] (by kernel_rfl) (by kernel_rfl) (by kernel_rfl) (by kernel_rfl) (fun _ _ _ _ _ h => h) (CS.out _ (Below.refl _ wr).drew) ?_
       simp only [tagged, List.filterMap_cons, List.filterMap_nil, List.getElem?_toArray, List.getElem?_cons_succ, List.getElem?_cons_zero, Option.map_some]
       have B0 : As (Below wr.heap.size wr wr.drew) := ⟨(Below.refl _ wr).drew⟩
       have hs0 : wr.heap.size ≤ wr.drew.heap.size := Nat.le_refl _
       generalize wr.drew = v0 at *
       iterate 2 (with_reducible refine wpKept_sure (fun K hK => ?_); go_simp; with_reducible refine hK _ ?_; clear hK K)
       with_reducible refine wpKept_next (fun K hK => ?_)
       go_simp
       refine (C20.out _ B0.out).mono ?_
       rintro e0 v1 ⟨rfl, q1⟩
       have B1 : As (Below wr.heap.size wr v1) := ⟨B0.out.trans (q1.mono hs0)⟩
       have hs1 := B1.out.size
       refine hK _ _ (CS.out _ B1.out) ?_
       clear hK K q1
       iterate 5 (with_reducible refine wpKept_sure (fun K hK => ?_); go_simp; with_reducible refine hK _ ?_; clear hK K)
       refine wpKept_take (fun K hK => ?_)
       rw [if_pos (by rfl)]
       apply Exists.intro
       refine ⟨fun w' hw' => ?_, hK _ ?_⟩
       ·have j0 := hw'
        go_simp
        rfl
       clear hK K
       iterate 1 (with_reducible refine wpKept_sure (fun K hK => ?_); go_simp; with_reducible refine hK _ ?_; clear hK K)
       with_reducible refine wpKept_next (fun K hK => ?_)
       go_simp
       refine (C11.out _ B1.out).mono ?_
       rintro e0 v2 ⟨rfl, q1⟩
       have B2 : As (Below wr.heap.size wr v2) := ⟨B1.out.trans (q1.mono hs1)⟩
       have hs2 := B2.out.size
       refine hK _ _ (CS.out _ B2.out) ?_
       clear hK K q1
       iterate 5 (with_reducible refine wpKept_sure (fun K hK => ?_); go_simp; with_reducible refine hK _ ?_; clear hK K)
       with_reducible refine wpKept_next (fun K hK => ?_)
       go_simp
       refine (C9.out _ B2.out).mono ?_
       rintro e0 v3 ⟨u9, rfl, q0, q1⟩
       have D9 := As.mk q0
       have B3 : As (Below wr.heap.size wr v3) := ⟨B2.out.trans (q1.mono hs2)⟩
       have hs3 := B3.out.size
       refine hK _ _ (CS.out _ B3.out) ?_
       clear hK K q1
       with_reducible refine wpKept_next (fun K hK => ?_)
       go_simp
       refine (C22.out _ B3.out).mono ?_
       rintro e0 v4 ⟨u22, rfl, q0, q1⟩
       have D22 := As.mk q0
       have B4 : As (Below wr.heap.size wr v4) := ⟨B3.out.trans (q1.mono hs3)⟩
       have hs4 := B4.out.size
       have D9' : As (DueRow v4 v2.heap.size u9 (colL nextS 1 l2)) := ⟨own_keep D9.out (fun g _ hg => q1.block g hg)⟩
       refine hK _ _ (CS.out _ B4.out) ?_
       clear hK K q1
       with_reducible refine wpKept_next (fun K hK => ?_)
       go_simp
       refine (samedue_a D9'.out D22.out HLE.out.1).mono ?_
       rintro e0 v5 ⟨rfl, q1⟩
       have B5 : As (Below wr.heap.size wr v5) := ⟨B4.out.trans (q1.mono hs4)⟩
       have hs5 := B5.out.size
       refine hK _ _ (CS.out _ B5.out) ?_
       clear hK K q1
       iterate 4 (with_reducible refine wpKept_sure (fun K hK => ?_); go_simp; with_reducible refine hK _ ?_; clear hK K)
       with_reducible refine wpKept_next (fun K hK => ?_)
       go_simp
       refine (C10.out _ B5.out).mono ?_
       rintro e0 v6 ⟨u10, rfl, q0, q1⟩
       have D10 := As.mk q0
       have B6 : As (Below wr.heap.size wr v6) := ⟨B5.out.trans (q1.mono hs5)⟩
       have hs6 := B6.out.size
       refine hK _ _ (CS.out _ B6.out) ?_
       clear hK K q1
       with_reducible refine wpKept_next (fun K hK => ?_)
       go_simp
       refine (C23.out _ B6.out).mono ?_
       rintro e0 v7 ⟨u23, rfl, q0, q1⟩
       have D23 := As.mk q0
       have B7 : As (Below wr.heap.size wr v7) := ⟨B6.out.trans (q1.mono hs6)⟩
       have hs7 := B7.out.size
       have D10' : As (DueRow v7 v5.heap.size u10 (colL askedS 1 l2)) := ⟨own_keep D10.out (fun g _ hg => q1.block g hg)⟩
       refine hK _ _ (CS.out _ B7.out) ?_
       clear hK K q1
       with_reducible refine wpKept_next (fun K hK => ?_)
       go_simp
       refine (samedue_a D10'.out D23.out HLE.out.2).mono ?_
       rintro e0 v8 ⟨rfl, q1⟩
       have B8 : As (Below wr.heap.size wr v8) := ⟨B7.out.trans (q1.mono hs7)⟩
       have hs8 := B8.out.size
       refine hK _ _ (CS.out _ B8.out) ?_
       clear hK K q1
       iterate 2 (with_reducible refine wpKept_sure (fun K hK => ?_); go_simp; with_reducible refine hK _ ?_; clear hK K)
       refine wpKept_nil ?_
       go_wp2_with fail
       go_ret
       exact ⟨rfl, HLX.out.trans (B8.out.mono HLX.out.size)⟩
end Go.Proofs.YthfjhgdiakciaaaGreat.Bl
