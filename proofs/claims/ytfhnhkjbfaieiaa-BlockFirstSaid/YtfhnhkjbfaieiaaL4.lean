/- The function BlockFirst of layer 15, over its callees: it returns true. Condition: the argument reads as a list of acts. -/
import Derived.Test.YtfhnhkjbfaieiaaL0
namespace Go.Proofs.Ytfhnhkjbfaieiaa.Bl
open Go.RowKit
set_option linter.unusedVariables false
set_option linter.unusedSimpArgs false
/-- Two disks, each with blocks of its own. -/
structure Two (B : Nat) (w : World) (od oc : Nat → Prop) : Prop where
  lo : ∀ k, od k → B ≤ k ∧ k < w.heap.size ∧ ¬ oc k
  hi : ∀ k, oc k → B ≤ k ∧ k < w.heap.size
def Up (own : Nat → Prop) (w w' : World) : Nat → Prop := fun k => own k ∨ (w.heap.size ≤ k ∧ k < w'.heap.size)
theorem Two.left {B : Nat} {w w' : World} {od oc : Nat → Prop} (h : Two B w od oc) (hB : B ≤ w.heap.size) (hs : w.heap.size ≤ w'.heap.size) : Two B w' (Up od w w') oc := by
  refine ⟨fun k hk => ?_, fun k hk => ?_⟩
  · rcases hk with hk | hk
    · have := h.lo k hk
      exact ⟨this.1, by omega, this.2.2⟩
    · exact ⟨by omega, hk.2, fun ho => by have := h.hi k ho; omega⟩
  · have := h.hi k hk
    omega
theorem Two.right {B : Nat} {w w' : World} {od oc : Nat → Prop} (h : Two B w od oc) (hB : B ≤ w.heap.size) (hs : w.heap.size ≤ w'.heap.size) : Two B w' od (Up oc w w') := by
  refine ⟨fun k hk => ?_, fun k hk => ?_⟩
  · have := h.lo k hk
    exact ⟨this.1, by omega, fun ho => ho.elim this.2.2 (fun ho => by omega)⟩
  · rcases hk with hk | hk
    · have := h.hi k hk
      omega
    · omega
theorem Two.below {B : Nat} {w w' : World} {od oc : Nat → Prop} (h : Two B w od oc) (hs : w.heap.size ≤ w'.heap.size) : Two B w' od oc :=
  ⟨fun k hk => by have := h.lo k hk; exact ⟨this.1, by omega, this.2.2⟩, fun k hk => by have := h.hi k hk; omega⟩
theorem Disk.up {w w' : World} {own : Nat → Prop} {b n : Nat} {s : St} (h : Disk w' (And' own w) b n s) : Disk w' (Up own w w') b n s :=
  h.mono (fun k hk hl => hk.elim .inl (fun h => .inr ⟨h, hl⟩))
/-- All writes, one behind the other. -/
def laid : List Wr → List (List Int) → List (List Int)
  | [], m => m
  | x :: r, m => laid r (m.set x.pos x.b)
theorem laid_snoc : ∀ (r : List Wr) (x : Wr) (m : List (List Int)), laid (r ++ [x]) m = (laid r m).set x.pos x.b
  | [], _, _ => rfl
  | y :: r, x, m => by rw [List.cons_append, laid, laid_snoc r x]; rfl
theorem crashL_laid (cut : Nat) : ∀ (r : List Wr) (k : Nat) (m : List (List Int)), crashL cut r k m = match r[k]? with
    | none => laid r m
    | some x => (laid (r.take k) m).set x.pos (over ((laid (r.take k) m).getD x.pos []) (x.b.take cut))
  | [], k, m => by simp [crashL, laid]
  | y :: r, 0, m => by simp [crashL, laid]
  | y :: r, k + 1, m => by
    rw [crashL, if_neg (by omega), show ((k + 1 : Nat) : Int) - 1 = (k : Int) by omega, crashL_laid cut r k]
    simp only [List.getElem?_cons_succ, List.take_succ_cons, laid]
def wrOf (y : Ac) : Wr := ⟨kAt 8 y.pos, full64 y.fill⟩
structure DSt (s : St) (l : List Ac) (i : Nat) : Prop where
  dark : s.dark = false
  left : s.left = -1
  limit : s.limit = 8
  sure : s.sure = List.replicate 8 zero64
  wait : s.wait = (l.take i).map wrOf
structure CSt (s : St) (l : List Ac) (k i : Nat) : Prop where
  dark : s.dark = false
  left : s.left = -1
  limit : s.limit = 8
  now : s.now = laid ((l.take (min i k)).map wrOf) (List.replicate 8 zero64)
  wait : s.wait.length ≤ i
theorem dst_start (l : List Ac) : DSt (newS 8) l 0 := ⟨rfl, rfl, rfl, rfl, by simp [newS]⟩
theorem cst_start (l : List Ac) (k : Nat) : CSt (newS 8) l k 0 := ⟨rfl, rfl, rfl, by simp [newS, laid], Nat.le_refl _⟩
theorem take_next {l : List Ac} {i : Nat} (hi : i < l.length) : (l.take (i + 1)).map wrOf = (l.take i).map wrOf ++ [wrOf l[i]] := by
  rw [List.take_add_one, List.getElem?_eq_getElem hi, List.map_append]
  rfl
theorem dst_write {s : St} {l : List Ac} {i : Nat} (h : DSt s l i) (hi : i < l.length) (k8 : kAt 8 l[i].pos < 8) : ∃ s', writeF s 8 (kAt 8 l[i].pos : Nat) (full64 l[i].fill) = (0, s') ∧ DSt s' l (i + 1) :=
  ⟨_, write_free (n := 8) h.dark h.left k8 (by rw [h.limit]; exact Int.le_refl _) (full_len _), h.dark, h.left, h.limit, h.sure, by
    show s.wait ++ [_] = _
    rw [take_next hi, h.wait]; rfl⟩
theorem cst_write {s : St} {l : List Ac} {k i : Nat} (h : CSt s l k i) (hi : i < l.length) (hk : i < k) (k8 : kAt 8 l[i].pos < 8) : ∃ s', writeF s 8 (kAt 8 l[i].pos : Nat) (full64 l[i].fill) = (0, s') ∧ CSt s' l k (i + 1) := by
  refine ⟨_, write_free (n := 8) h.dark h.left k8 (by rw [h.limit]; exact Int.le_refl _) (full_len _), h.dark, h.left, h.limit, ?_, ?_⟩
  · show s.now.set _ _ = _
    rw [h.now, Nat.min_eq_left (by omega), Nat.min_eq_left (by omega), take_next hi, laid_snoc]
    rfl
  · show (s.wait ++ [_]).length ≤ _
    rw [List.length_append]
    have := h.wait
    simp
    omega
theorem cst_skip {s : St} {l : List Ac} {k i : Nat} (h : CSt s l k i) (hk : ¬ i < k) : CSt s l k (i + 1) :=
  ⟨h.dark, h.left, h.limit, by rw [h.now, Nat.min_eq_right (by omega), Nat.min_eq_right (by omega)], by have := h.wait; omega⟩
/-- The blocks behind the crash, and those of the other disk. -/
theorem first_same {s s2 : St} {l : List Ac} {n k t : Nat} (h : DSt s l n) (h2 : CSt s2 l k n) (hn : n ≤ l.length) (hkn : k ≤ n) (ht : t ≤ 64) (i : Nat) (y : List Int) (hy : s2.now[i]? = some y)
    (z : Ac) (hz : k < n → l[k]? = some z) :
    (crashF s k t).now[i]? = some (if k < n ∧ i = kAt 8 z.pos then (full64 z.fill).take t ++ y.drop t else y) := by
  have hc : cutN t = t := by unfold cutN; rw [if_neg (by omega)]; split <;> omega
  show (crashL (cutN t) s.wait k s.sure)[i]? = _
  have hnow : s2.now = laid ((l.take k).map wrOf) (List.replicate 8 zero64) := by rw [h2.now, Nat.min_eq_right hkn]
  rw [hc, crashL_laid, h.wait, h.sure]
  by_cases hk : k < n
  · have hkl : k < l.length := by omega
    have hz' := hz hk
    have e1 : ((l.take n).map wrOf)[k]? = some (wrOf z) := by
      rw [List.getElem?_map, List.getElem?_take, if_pos hk, hz']; rfl
    have e2 : ((l.take n).map wrOf).take k = (l.take k).map wrOf := by
      rw [← List.map_take, List.take_take, Nat.min_eq_left (by omega)]
    rw [e1, e2, ← hnow]
    simp only
    by_cases hi : i = kAt 8 z.pos
    · rw [if_pos ⟨hk, hi⟩]
      have hp : (wrOf z).pos = i := hi.symm
      have hil : i < s2.now.length := (List.getElem?_eq_some_iff.1 hy).1
      rw [hp, List.getElem?_set_self hil, List.getD, hy]
      have e3 : ((wrOf z).b.take t).length = t := by rw [List.length_take]; show min t (full64 _).length = t; rw [full_len]; omega
      show some (over y _) = _
      rw [over, e3]
      rfl
    · rw [if_neg (fun h => hi h.2), List.getElem?_set_ne (show (wrOf z).pos ≠ i from fun e => hi e.symm), hy]
  · have e1 : ((l.take n).map wrOf)[k]? = none := by
      rw [List.getElem?_eq_none]
      rw [List.length_map, List.length_take]
      omega
    have e2 : k = n := by omega
    rw [e1, if_neg (fun h => hk h.1)]
    simp only
    rw [e2] at hnow
    rw [← hnow, hy]
theorem full_b (c : Int) (W : World) (hc : 0 ≤ c ∧ c < 256) :
    Calls Try.prog 12 #[.int .u8 c] W fun e W' => ∃ g k, e = .returned (.slice (some ⟨g, 0, none⟩) 64 k) ∧ 64 ≤ k ∧ Bytes W' (some ⟨g, 0, none⟩) (full64 c) ∧ W.heap.size ≤ g ∧ Below W.heap.size W W' := by
  obtain ⟨i0, hi, hz0, hz1, hz2⟩ := info_parts info5
  have HC := As.mk hc
  clear hc
  go_enter Try.func12, Try.ntmps12
  go_wp2_with fail
  go_loopg [3, 4] 64 (fun gk v3 v4 w' => ∃ i : Nat, v4 = .int .i64 i ∧ i ≤ 64 ∧ As (gk = 64 - i) ∧ As (w'.ownsRow W.heap.size 5 1 v3 i (bv (List.replicate i c))) ∧ As (Below W.heap.size W w'))
  case atStart => exact ⟨0, rfl, by omega, ⟨rfl⟩, ⟨World.ownsRow_nil _ _ _ _⟩, ⟨Below.refl _ _⟩⟩
  case round =>
    obtain ⟨i, rfl, hi64, HK, HO, HB⟩ := hrel
    by_cases hlt : i < 64
    · go_wp2_with ((at_builtin; refine wpList_append_lies _ rfl _ _ 33 rfl W.heap.size 5 i0 (.int .u8 0) 1 1 Try.underlying33 hi hz0 hz1 hz2 rfl (by decide) _ _ _ rfl (HO.out.alloc _) ⟨wr.heap.size, 0, none⟩ 1 1 [.int .u8 c] rfl rfl (World.news_of_block (blk_new wr _)) (by simp [Value.oneCell']) (by omega) (by unfold maxLen; omega) (by omega) (by have := HB.out.size; simp; omega) _ rfl ?_))
      intro g cap w1 hown hgrow hat hl
      have hs := HB.out.size
      have HO' : As (w1.ownsRow W.heap.size 5 1 (.slice (some ⟨g, 0, none⟩) (i + 1) cap) (i + 1) (bv (List.replicate (i + 1) c))) := ⟨by
        have e : bv (List.replicate (i + 1) c) = bv (List.replicate i c) ++ [.int .u8 c] := by simp [bv, List.replicate_succ']
        rw [e]; exact hown⟩
      have HB' : As (Below W.heap.size W w1) := ⟨(HB.out.alloc hs _).grown hgrow (by simp; omega) (fun k hk => (HO.out.lt k hk).1)⟩
      clear hown hgrow hat hl hs
      go_wp2_with fail
      go_roundg (64 - (i + 1))
      case measure => have := HK.out; omega
      case rel => exact ⟨i + 1, by go_num, by omega, ⟨rfl⟩, HO', HB'⟩
    · obtain rfl : i = 64 := by omega
      obtain ⟨g, cap, rfl, hbg, hl⟩ := HO.out.form (by omega)
      go_wp2_with fail
      go_ret
      exact ⟨g, cap, rfl, by obtain ⟨_, _, _, h4, _⟩ := own_block HO.out; exact h4, bytes_of_own HO.out (full_ok c HC.out), hbg, HB.out⟩
set_option maxHeartbeats 8000000 in
set_option maxRecDepth 100000 in
theorem first_a (A : Option Addr) (c : Nat) (l : List Ac) (keep cut : Int) (W : World) (hA : Acts W A l) (hl : l.length ≤ 9223372036854775807)
    (hk1 : -9223372036854775808 ≤ keep) (hk2 : keep ≤ 9223372036854775807) (hc1 : -9223372036854775808 ≤ cut) (hc2 : cut ≤ 9223372036854775807) :
    Calls Try.prog 4 #[.slice A l.length c, .int .i64 keep, .int .i64 cut] W fun e W' => e = .returned (.bool true) ∧ Below W.heap.size W W' := by
  have HA := As.mk hA
  clear hA
  obtain ⟨ht, ht65⟩ := kAt_spec 65 cut (by omega)
  generalize kAt 65 cut = t at *
  go_enter Try.func4, Try.ntmps4
  go_wp2_with fail
  refine (new_yes 8 (by omega) (by omega) W).mono ?_
  rintro e1 w1 ⟨b, rfl, D1, B1, hb⟩
  have hz1 := B1.size
  have HD := As.mk D1
  have HB := As.mk B1
  clear D1 B1
  go_wp2_with fail
  refine (new_yes 8 (by omega) (by omega) w1).mono ?_
  rintro e1 w2 ⟨b2, rfl, D2, B2, hb2⟩
  have hz2 := B2.size
  replace HD := As.mk ((HD.out.mono (own' := fun k => W.heap.size ≤ k ∧ k < w1.heap.size) (fun k h hl => ⟨h, hl⟩)).below B2 (Nat.le_refl _))
  have HC := As.mk (D2.mono (own' := fun k => w1.heap.size ≤ k ∧ k < w2.heap.size) (fun k h hl => ⟨h, hl⟩))
  replace HB := As.mk (HB.out.trans (B2.mono hz1))
  have HT : As (Two W.heap.size w2 (fun k => W.heap.size ≤ k ∧ k < w1.heap.size) (fun k => w1.heap.size ≤ k ∧ k < w2.heap.size)) := ⟨⟨fun k hk => ⟨hk.1, by omega, fun h => by omega⟩, fun k hk => by omega⟩⟩
  clear D2 B2
  go_upto_region 5 with fail
  go_cut [11] from 44 to 46 (fun v11 wc => ∃ n : Nat, v11 = .int .i64 n ∧ n ≤ 60 ∧ n ≤ l.length ∧ wc = w2)
  case first =>
    by_cases h60 : l.length ≤ 60
    · go_wp2_with fail
      go_meet
      case rel => exact ⟨l.length, rfl, h60, Nat.le_refl _, rfl⟩
    · go_wp2_with fail
      go_meet
      case rel => exact ⟨60, rfl, Nat.le_refl _, by omega, rfl⟩
  case rest =>
  obtain ⟨n, rfl, hn60, hnl, rfl⟩ := hcut
  obtain ⟨hk, hkn⟩ := kAt_spec ((n : Int) + 1) keep (by omega)
  generalize kAt ((n : Int) + 1) keep = k at *
  have hn0 : (0 : Int) ≤ (n : Int) := by omega
  have hk0 : (0 : Int) ≤ (k : Int) := by omega
  have ht0 : (0 : Int) ≤ (t : Int) := by omega
  go_wp2_with fail
  clear hk ht
  go_loopg [14] n (fun gk v14 w' => ∃ (i : Nat) (s s2 : St) (od oc : Nat → Prop), v14 = .int .i64 i ∧ As (gk = n - i) ∧ As (i ≤ n) ∧ As (DSt s l i) ∧ As (CSt s2 l k i) ∧ As (Disk w' od b 8 s) ∧ As (Disk w' oc b2 8 s2) ∧ As (Two W.heap.size w' od oc) ∧ As (Below W.heap.size W w'))
  case atStart => exact ⟨0, newS 8, newS 8, _, _, rfl, ⟨rfl⟩, ⟨Nat.zero_le _⟩, ⟨dst_start l⟩, ⟨cst_start l k⟩, HD, HC, HT, HB⟩
  case round =>
    clear HD HC HT HB
    obtain ⟨i, s, s2, od, oc, rfl, HK, HI, HS, HS2, HD, HC, HT, HB⟩ := hrel
    have hs0 := HB.out.size
    by_cases hi : i < n
    · have hil : i < l.length := by omega
      obtain ⟨ab, ao, rfl, hlt, a0, a1, a2, a3, hf0, hf1, _⟩ := HA.out i hil
      have e1 := (HB.out.cell (p := ⟨ab, ao + i * 4 + 1, none⟩) hlt).trans a1
      have e3 := (HB.out.cell (p := ⟨ab, ao + i * 4 + 3, none⟩) hlt).trans a3
      have A3 := As.mk a3
      clear a0 a1 a2 a3
      obtain ⟨hp, hp8⟩ := kAt_spec 8 l[i].pos (by omega)
      have W1 := dst_write HS.out hil (by omega)
      have W2 := As.mk (fun hk => cst_write HS2.out hil hk (by omega : kAt 8 l[i].pos < 8))
      generalize kAt 8 l[i].pos = p at *
      generalize l[i] = y at *
      obtain ⟨s', f1, f2⟩ := W1
      have F1 := As.mk f1
      have F2 := As.mk f2
      clear f1 f2
      have hwl : s.wait.length ≤ i := by rw [HS.out.wait, List.length_map, List.length_take]; omega
      have hwl2 := HS2.out.wait
      have hp0 : (0 : Int) ≤ (p : Int) := by omega
      go_wp2_with fail
      refine (full_a y.fill _ ⟨hf0, hf1⟩).mono ?_
      rintro e0 w3 ⟨q, pp, rfl, bx, hq, hb3⟩
      have BX := As.mk bx
      have hs3 := hb3.size
      have HB3 := As.mk (HB.out.trans (hb3.mono hs0))
      have HD3 := As.mk (HD.out.below hb3 (Nat.le_refl _))
      have HC3 := As.mk (HC.out.below hb3 (Nat.le_refl _))
      have HT3 := As.mk (HT.out.below hs3)
      clear bx hb3 hq e1 e3 HB HD HC HT
      go_wp2_with fail
      refine (write_is (own' := And' od w3) HD3.out p pp BX.out (full_len _) (by omega) 0 s' F1.out (fun _ h => .inl h) (fun q hq => .inr hq)).mono ?_
      rintro e0 w4 ⟨rfl, d4, f4⟩
      have hs4 := f4.low.size
      have HD4 := As.mk d4.up
      have HC4 := As.mk (HC3.out.frame f4 (fun k h h' => (HT3.out.lo k h').2.2 h))
      have HB4 := As.mk (HB3.out.trans (f4.below (by omega) (fun k h => (HT3.out.lo k h).1)))
      have HT4 := As.mk (HT3.out.left (by omega) hs4)
      clear d4 f4 BX HD3 HC3 HB3 HT3
      by_cases hik : i < k
      · obtain ⟨s2', g1, g2⟩ := W2.out hik
        have G1 := As.mk g1
        have G2 := As.mk g2
        clear g1 g2
        have e3 := (HB4.out.cell (p := ⟨ab, ao + i * 4 + 3, none⟩) hlt).trans A3.out
        go_wp2_with fail
        refine (full_a y.fill _ ⟨hf0, hf1⟩).mono ?_
        rintro e0 w5 ⟨q, pp, rfl, bx, hq, hb5⟩
        have BX := As.mk bx
        have hs5 := hb5.size
        have HB5 := As.mk (HB4.out.trans (hb5.mono (by omega)))
        have HD5 := As.mk (HD4.out.below hb5 (Nat.le_refl _))
        have HC5 := As.mk (HC4.out.below hb5 (Nat.le_refl _))
        have HT5 := As.mk (HT4.out.below hs5)
        clear bx hb5 hq e3 HB4 HD4 HC4 HT4
        go_wp2_with fail
        refine (write_is (own' := And' oc w5) HC5.out p pp BX.out (full_len _) (by omega) 0 s2' G1.out (fun _ h => .inl h) (fun q hq => .inr hq)).mono ?_
        rintro e0 w6 ⟨rfl, d6, f6⟩
        have hs6 := f6.low.size
        have HC6 := As.mk d6.up
        have HD6 := As.mk (HD5.out.frame f6 (fun k h h' => (HT5.out.lo k h).2.2 h'))
        have HB6 := As.mk (HB5.out.trans (f6.below (by omega) (fun k h => (HT5.out.hi k h).1)))
        have HT6 := As.mk (HT5.out.right (by omega) hs6)
        clear d6 f6 BX HD5 HC5 HB5 HT5
        go_wp2_with fail
        go_roundg (n - (i + 1))
        case measure => have := HK.out; omega
        case rel => exact ⟨i + 1, s', s2', _, _, by go_num, ⟨rfl⟩, ⟨hi⟩, F2, G2, HD6, HC6, HT6, HB6⟩
      · go_wp2_with fail
        go_roundg (n - (i + 1))
        case measure => have := HK.out; omega
        case rel => exact ⟨i + 1, s', s2, _, _, by go_num, ⟨rfl⟩, ⟨hi⟩, F2, ⟨cst_skip HS2.out hik⟩, HD4, HC4, HT4, HB4⟩
    · obtain rfl : i = n := by have := HI.out; omega
      have hwl : s.wait.length = i := by rw [HS.out.wait, List.length_map, List.length_take]; omega
      have WA := waiting_a HD.out
      rw [hwl] at WA
      have WA := As.mk WA
      have hkl : k ≤ i := by omega
      have CS := As.mk (fun (j : Nat) (y : List Int) (hy : s2.now[j]? = some y) (z : Ac) (hz : k < i → l[k]? = some z) => first_same HS.out HS2.out hnl hkl (show t ≤ 64 by omega) j y hy z hz)
      have hdk2 := As.mk HS2.out.dark
      go_wp2_with fail
      refine WA.out.mono ?_
      rintro e0 w3 ⟨rfl, rfl⟩
      go_wp2_with fail
      refine (crash_is (own' := And' od wr) HD.out k t (by omega) (by omega) _ rfl (fun _ h => .inl h) (fun q hq => .inr hq)).mono ?_
      rintro e0 w4 ⟨rfl, d4, f4⟩
      have hs4 := f4.low.size
      have HD4 := As.mk d4.up
      have HC4 := As.mk (HC.out.frame f4 (fun k h h' => (HT.out.lo k h').2.2 h))
      have HB4 := As.mk (HB.out.trans (f4.below (by omega) (fun k h => (HT.out.lo k h).1)))
      have hw4 := hs4
      clear d4 f4 HD HC HB HT WA
      have hdk : As ((crashF s k t).dark = false) := ⟨rfl⟩
      have hwt : As ((crashF s k t).wait = []) := ⟨rfl⟩
      generalize crashF s k t = s3 at *
      go_wp2_with fail
      refine (waiting_a HD4.out).mono ?_
      rintro e0 w5 ⟨rfl, rfl⟩
      rw [hwt.out]
      go_wp2_with fail
      have hB4 := HB4.out.size
      go_loopg [16] 8 (fun gk v16 w' => ∃ (j : Nat), v16 = .int .i64 j ∧ As (gk = 8 - j) ∧ As (j ≤ 8) ∧ As (Below w4.heap.size w4 w'))
      case atStart => exact ⟨0, rfl, ⟨rfl⟩, ⟨by omega⟩, ⟨Below.refl _ _⟩⟩
      case round =>
        obtain ⟨j, rfl, HK3, HJ, HBJ⟩ := hrel
        have hsj := HBJ.out.size
        by_cases hj : j < 8
        · obtain ⟨y, hy⟩ : ∃ y, s2.now[j]? = some y := ⟨_, List.getElem?_eq_getElem (by rw [HC4.out.ok.now]; exact hj)⟩
          have hy64 : y.length = 64 := HC4.out.ok.b1.1 y (List.mem_of_getElem? hy)
          have hyo : As (ByteOk y) := ⟨HC4.out.ok.b1.2 y (List.mem_of_getElem? hy)⟩
          have HDJ := As.mk (HD4.out.below HBJ.out (Nat.le_refl _))
          have HCJ := As.mk (HC4.out.below HBJ.out (Nat.le_refl _))
          have RC := As.mk (fun (w : World) (oc : Nat → Prop) (h : Disk w oc b2 8 s2) => read_is h j hdk2.out y hy)
          obtain ⟨z, hz⟩ : ∃ z, k < i → l[k]? = some z := by
            by_cases hki : k < i
            · have hkll : k < l.length := by omega
              exact ⟨l[k], fun _ => List.getElem?_eq_getElem hkll⟩
            · exact ⟨⟨0, 0, 0, 0⟩, fun h => absurd h hki⟩
          have hya := CS.out j y hy z hz
          have hpz := kAt_spec 8 z.pos (by omega)
          generalize kAt 8 z.pos = p at *
          obtain ⟨hp, hp8⟩ := hpz
          have hp0 : (0 : Int) ≤ (p : Int) := by omega
          have hj0 : (0 : Int) ≤ (j : Int) := by omega
          have hj8 : (j : Int) < 8 := by omega
          have RD := As.mk (read_is HDJ.out j hdk.out _ hya)
          have HY := As.mk hya
          have HYY := As.mk hy
          have HZ := As.mk hz
          clear hya hy hz
          generalize hxa : (if k < i ∧ j = p then (full64 z.fill).take t ++ y.drop t else y) = xa at *
          have HXA := As.mk hxa
          clear hxa
          go_wp2_with fail
          refine RD.out.mono ?_
          rintro e0 w5 ⟨g, rfl, hg, hgs, hb5⟩
          have hs5 := hb5.size
          have hgl := blk_lt hg
          have HG := As.mk hg
          have HB5 := As.mk (HBJ.out.trans (hb5.mono hsj))
          have HC5 := As.mk (HCJ.out.below hb5 (Nat.le_refl _))
          clear hg hb5 RD
          go_wp2_with fail
          refine (RC.out _ _ HC5.out).mono ?_
          rintro e0 w6 ⟨g2, rfl, hg2, hgs2, hb6⟩
          have hs6 := hb6.size
          have hgl2 := blk_lt hg2
          have HG2 := As.mk hg2
          have HG6 := As.mk ((hb6.block g hgl).trans HG.out)
          have HB6 := As.mk (HB5.out.trans (hb6.mono (by omega)))
          clear hg2 hb6 HC5 HB5 HG RC
          have hxo : As (xa.length = 64 ∧ ByteOk xa) := ⟨by
            have hm := List.mem_of_getElem? HY.out
            exact ⟨HD4.out.ok.b1.1 _ hm, HD4.out.ok.b1.2 _ hm⟩⟩
          by_cases hki : k < i
          · have hkll : k < l.length := by omega
            obtain ⟨ab, ao, rfl, hlt, a0, a1, a2, a3, hf0, hf1, _⟩ := HA.out k hkll
            have hzk : l[k] = z := by
              have := HZ.out hki
              rw [List.getElem?_eq_getElem hkll] at this
              exact Option.some.inj this
            rw [hzk] at a1 a3 hf0 hf1
            have A3 := As.mk a3
            have HBW := As.mk (HB4.out.trans (HB6.out.mono hB4))
            have e1 := (HBW.out.cell (p := ⟨ab, ao + k * 4 + 1, none⟩) hlt).trans a1
            have e3 := (HBW.out.cell (p := ⟨ab, ao + k * 4 + 3, none⟩) hlt).trans a3
            clear a0 a1 a2 a3 hzk
            by_cases hjp : j = p
            · subst hjp
              have hxe : As (xa = (full64 z.fill).take t ++ y.drop t) := ⟨by rw [← HXA.out, if_pos ⟨hki, rfl⟩]⟩
              go_wp2_with fail
              refine (full_b z.fill _ ⟨hf0, hf1⟩).mono ?_
              rintro e0 w7 ⟨q, pp, rfl, hpp, bx, hq, hb7⟩
              have BX := As.mk bx
              have hs7 := hb7.size
              have HG7 := As.mk ((hb7.block g (by omega)).trans HG6.out)
              have HG27 := As.mk ((hb7.block g2 hgl2).trans HG2.out)
              have HB7 := As.mk (HB6.out.trans (hb7.mono (by omega)))
              have htp : (t : Int) ≤ (pp : Int) := by omega
              obtain ⟨i0, hi0, hz0, hz1, hz2⟩ := info_parts info5
              have hrq : As (w7.rangeAt q 0 (bv (full64 z.fill))) := ⟨by
                obtain ⟨q', o', he, _, hr⟩ := bx.2 (fun h => by have := full_len z.fill; rw [h] at this; cases this)
                injection he with he
                injection he with h1 h2
                subst h1 h2
                exact hr⟩
              clear bx hb7 hq HG6 HG2 HB6 HBW e1 e3
              have hsrc : As (∀ j u, (bv ((full64 z.fill).take t))[j]? = some u → w7.cell? ((⟨q, 0, none⟩ : Addr).add j) = some u) := ⟨fun j u hu => by
                rw [add0]
                have := range_take hrq.out t j u (by rw [bv, ← List.map_take]; exact hu)
                rwa [Nat.zero_add] at this⟩
              have hln : (bv ((full64 z.fill).take t)).length = t * 1 := by rw [bv_len, List.length_take, full_len]; omega
              have ht64 : (t : Int) ≤ 64 := by omega
              by_cases htl : t < 64
              · have htl' : (t : Int) < 64 := by omega
                go_upto_region 29 with ((at_builtin; refine wpList_append_own _ rfl (.tmp 138) (.tmp 146) 33 rfl w4.heap.size 5 i0 (.int .u8 0) 1 1 Try.underlying33 hi0 hz0 hz1 hz2 rfl (by omega) (.slice none 0 0) 0 [] rfl (World.ownsRow_nil _ _ _ _) ⟨q, 0, none⟩ t pp (bv ((full64 z.fill).take t)) rfl hln hsrc.out (bv_one _) (by unfold maxLen; omega) (by omega) (by omega) ?_; intro v1 w8 ho8 hg8 hn8))
                have hb8 : Below w7.heap.size w7 w8 := ⟨hg8.os, hg8.tape, hg8.output, hg8.size, fun k hk => hg8.block k hk (fun e => by simp [Value.ownBlock] at e)⟩
                have ho8' : As (w8.ownsRow w4.heap.size 5 1 v1 t (bv ((full64 z.fill).take t))) := ⟨by rw [Nat.zero_add, List.nil_append] at ho8; exact ho8⟩
                have hs8 := hg8.size
                have HG8 := As.mk ((hb8.block g (by omega)).trans HG7.out)
                have HG28 := As.mk ((hb8.block g2 (by omega)).trans HG27.out)
                have HB8 := As.mk (HB7.out.trans (hb8.mono (by omega)))
                clear hb8 ho8 hg8 hn8 HG7 HG27 HB7 BX hrq hsrc
                have hsr2 : As (∀ j u, (bv (y.drop t))[j]? = some u → w8.cell? ((⟨g2, t, none⟩ : Addr).add j) = some u) := ⟨fun j u hu => by
                  rw [Addr.add_mid, blk_cell HG28.out, List.getElem?_toArray, bv_get]
                  rw [bv_get, List.getElem?_drop] at hu
                  exact hu⟩
                have hln2 : (bv (y.drop t)).length = (64 - t) * 1 := by rw [bv_len, List.length_drop, hy64, Nat.mul_one]
                go_upto_region 30 with ((at_builtin; refine wpList_append_own _ rfl (.tmp 148) (.tmp 154) 33 rfl w4.heap.size 5 i0 (.int .u8 0) 1 1 Try.underlying33 hi0 hz0 hz1 hz2 rfl (by omega) v1 t (bv ((full64 z.fill).take t)) rfl ho8'.out ⟨g2, t, none⟩ (64 - t) (64 - t) (bv (y.drop t)) rfl hln2 hsr2.out (bv_one _) (by unfold maxLen; omega) (by omega) (by omega) ?_; intro v2 w9 ho9 hg9 hn9))
                have hs9 := hg9.size
                have ho9' : w9.ownsRow w4.heap.size 5 1 v2 64 (bv xa) := by
                  rw [show t + (64 - t) = 64 by omega] at ho9
                  rw [hxe.out]
                  have e : bv ((full64 z.fill).take t ++ y.drop t) = bv ((full64 z.fill).take t) ++ bv (y.drop t) := by simp [bv]
                  rw [e]
                  exact ho9
                obtain ⟨g9, c9, rfl, _, _⟩ := ho9'.form (by omega)
                have HO9 := As.mk ho9'
                have HG9 := As.mk ((hg9.block g (by omega) (fun e => own_ne ho8'.out HG8.out (by decide) g e.symm rfl)).trans HG8.out)
                have HB9 := As.mk (HB8.out.grown hg9 (by omega) (fun k hk => (ho8'.out.lt k hk).1))
                clear ho9 ho9' hg9 hn9 HG8 HG28 HB8 ho8' hsr2
                go_wp2_with fail
                refine (same_64 _ _ _ _ _ _ _ (bytes_of_block HG9.out hxo.out.2) (bytes_of_own HO9.out hxo.out.2) hxo.out.1 hxo.out.1).mono ?_
                rintro e0 w10 ⟨rfl, rfl⟩
                rw [decide_eq_true (rfl : xa = xa)]
                go_wp2_with fail
                go_roundg (8 - (j + 1))
                case measure => have := HK3.out; omega
                case rel => exact ⟨j + 1, by go_num, ⟨rfl⟩, ⟨hj⟩, HB9⟩
              · have hte : 64 ≤ (t : Int) := by omega
                go_upto_region 29 with ((at_builtin; refine wpList_append_own _ rfl (.tmp 138) (.tmp 146) 33 rfl w4.heap.size 5 i0 (.int .u8 0) 1 1 Try.underlying33 hi0 hz0 hz1 hz2 rfl (by omega) (.slice none 0 0) 0 [] rfl (World.ownsRow_nil _ _ _ _) ⟨q, 0, none⟩ t pp (bv ((full64 z.fill).take t)) rfl hln hsrc.out (bv_one _) (by unfold maxLen; omega) (by omega) (by omega) ?_; intro v1 w8 ho8 hg8 hn8))
                have hb8 : Below w7.heap.size w7 w8 := ⟨hg8.os, hg8.tape, hg8.output, hg8.size, fun k hk => hg8.block k hk (fun e => by simp [Value.ownBlock] at e)⟩
                have ho8' : As (w8.ownsRow w4.heap.size 5 1 v1 t (bv ((full64 z.fill).take t))) := ⟨by rw [Nat.zero_add, List.nil_append] at ho8; exact ho8⟩
                have hs8 := hg8.size
                have HG8 := As.mk ((hb8.block g (by omega)).trans HG7.out)
                have HG28 := As.mk ((hb8.block g2 (by omega)).trans HG27.out)
                have HB8 := As.mk (HB7.out.trans (hb8.mono (by omega)))
                clear hb8 ho8 hg8 hn8 HG7 HG27 HB7 BX hrq hsrc
                have hsr2 : As (∀ j u, (bv (y.drop t))[j]? = some u → w8.cell? ((⟨g2, t, none⟩ : Addr).add j) = some u) := ⟨fun j u hu => by
                  rw [Addr.add_mid, blk_cell HG28.out, List.getElem?_toArray, bv_get]
                  rw [bv_get, List.getElem?_drop] at hu
                  exact hu⟩
                have hln2 : (bv (y.drop t)).length = (64 - t) * 1 := by rw [bv_len, List.length_drop, hy64, Nat.mul_one]
                have hsr3 : As (∀ j u, (bv (y.drop t))[j]? = some u → w8.cell? ((⟨g2, 0, none⟩ : Addr).add j) = some u) := ⟨fun j u hu => by
                  have := (List.getElem?_eq_some_iff.1 hu).1
                  rw [hln2] at this
                  omega⟩
                go_upto_region 30 with ((at_builtin; refine wpList_append_own _ rfl (.tmp 148) (.tmp 154) 33 rfl w4.heap.size 5 i0 (.int .u8 0) 1 1 Try.underlying33 hi0 hz0 hz1 hz2 rfl (by omega) v1 t (bv ((full64 z.fill).take t)) rfl ho8'.out ⟨g2, 0, none⟩ (64 - t) (64 - t) (bv (y.drop t)) rfl hln2 hsr3.out (bv_one _) (by unfold maxLen; omega) (by omega) (by omega) ?_; intro v2 w9 ho9 hg9 hn9))
                have hs9 := hg9.size
                have ho9' : w9.ownsRow w4.heap.size 5 1 v2 64 (bv xa) := by
                  rw [show t + (64 - t) = 64 by omega] at ho9
                  rw [hxe.out]
                  have e : bv ((full64 z.fill).take t ++ y.drop t) = bv ((full64 z.fill).take t) ++ bv (y.drop t) := by simp [bv]
                  rw [e]
                  exact ho9
                obtain ⟨g9, c9, rfl, _, _⟩ := ho9'.form (by omega)
                have HO9 := As.mk ho9'
                have HG9 := As.mk ((hg9.block g (by omega) (fun e => own_ne ho8'.out HG8.out (by decide) g e.symm rfl)).trans HG8.out)
                have HB9 := As.mk (HB8.out.grown hg9 (by omega) (fun k hk => (ho8'.out.lt k hk).1))
                clear ho9 ho9' hg9 hn9 HG8 HG28 HB8 ho8' hsr2
                go_wp2_with fail
                refine (same_64 _ _ _ _ _ _ _ (bytes_of_block HG9.out hxo.out.2) (bytes_of_own HO9.out hxo.out.2) hxo.out.1 hxo.out.1).mono ?_
                rintro e0 w10 ⟨rfl, rfl⟩
                rw [decide_eq_true (rfl : xa = xa)]
                go_wp2_with fail
                go_roundg (8 - (j + 1))
                case measure => have := HK3.out; omega
                case rel => exact ⟨j + 1, by go_num, ⟨rfl⟩, ⟨hj⟩, HB9⟩
            · have hxe : As (xa = y) := ⟨by rw [← HXA.out, if_neg (fun h => hjp h.2)]⟩
              have hjp' : ((j : Int) == (p : Int)) = false := by simpa using (show ¬ (j : Int) = (p : Int) by omega)
              go_wp2_with fail
              refine (same_64 _ _ _ _ _ _ _ (bytes_of_block HG6.out hxo.out.2) (bytes_of_block HG2.out hyo.out) hxo.out.1 hy64).mono ?_
              rintro e0 w10 ⟨rfl, rfl⟩
              rw [show decide (xa = y) = true from decide_eq_true hxe.out]
              go_wp2_with fail
              go_roundg (8 - (j + 1))
              case measure => have := HK3.out; omega
              case rel => exact ⟨j + 1, by go_num, ⟨rfl⟩, ⟨hj⟩, HB6⟩
          · have hxe : As (xa = y) := ⟨by rw [← HXA.out, if_neg (fun h => hki h.1)]⟩
            go_wp2_with fail
            refine (same_64 _ _ _ _ _ _ _ (bytes_of_block HG6.out hxo.out.2) (bytes_of_block HG2.out hyo.out) hxo.out.1 hy64).mono ?_
            rintro e0 w10 ⟨rfl, rfl⟩
            rw [show decide (xa = y) = true from decide_eq_true hxe.out]
            go_wp2_with fail
            go_roundg (8 - (j + 1))
            case measure => have := HK3.out; omega
            case rel => exact ⟨j + 1, by go_num, ⟨rfl⟩, ⟨hj⟩, HB6⟩
        · obtain rfl : j = 8 := by have := HJ.out; omega
          go_wp2_with fail
          refine (known_calls _).mono ?_
          rintro e0 w7 ⟨rfl, hb7⟩
          go_wp2_with fail
          go_ret
          exact ⟨rfl, HB4.out.trans ((HBJ.out.mono hB4).trans (hb7.mono (by omega)))⟩
end Go.Proofs.Ytfhnhkjbfaieiaa.Bl
