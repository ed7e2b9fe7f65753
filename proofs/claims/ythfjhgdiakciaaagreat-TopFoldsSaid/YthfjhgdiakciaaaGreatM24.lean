/- A journal's disk behind a crash that keeps nothing of what was not flushed, but the first bytes, fewer than three, of the first write; and what one more entry, or a flush, makes of it. Plain. No condition. -/
import Derived.Test.YthfjhgdiakciaaaGreatM11
import Derived.Test.YthfjhgdiakciaaaGreatM19
import Derived.Test.YthfjhgdiakciaaaGreatM20
import Derived.Test.YthfjhgdiakciaaaGreatM23
namespace Go.Proofs.YthfjhgdiakciaaaGreat.Bl
open Go.RowKit
set_option linter.unusedVariables false
set_option linter.unusedSimpArgs false
theorem over_take (l : List Int) (x : List Int) (c : Nat) (h : x.take c = l.take c) (hl : c ≤ x.length) (hl2 : c ≤ l.length) : over l (x.take c) = l := by
 unfold over
 rw [List.length_take, Nat.min_eq_left hl, h, List.take_append_drop]
theorem tail_zeros : ∀ n : Nat, Tail (zeros n)
 | 0 => .nil
 | n + 1 => .zero (zeros n)
theorem zeros_add (a b : Nat) : zeros (a + b) = zeros a ++ zeros b := by unfold zeros; rw [List.replicate_append_replicate]
theorem tail_one (n : Nat) (h : 9 ≤ n) : Tail (215 :: zeros (n - 1)) := by
 have := Tail.mark 55040 0 0 (zeros (n - 8)) (by decide) (by decide) (by decide) (by decide) (by decide) (by decide) (by rw [zeros_len]; omega)
 have e : (215 :: zeros (n - 1) : List Int) = be 55040 2 ++ (be (0 : Nat) 2 ++ (be 0 4 ++ zeros (n - 8))) := by
  rw [show n - 1 = 7 + (n - 8) by omega, zeros_add]; rfl
 rw [e]; exact this
theorem tail_two (n : Nat) (h : 9 ≤ n) : Tail (215 :: 166 :: zeros (n - 2)) := by
 have := Tail.sum (zeros (n - 8)) (by rw [zeros_len]; omega)
 have e : (215 :: 166 :: zeros (n - 2) : List Int) = be 55206 2 ++ (be (0 : Nat) 2 ++ (be 0 4 ++ zeros (n - 8))) := by
  rw [show n - 2 = 6 + (n - 8) by omega, zeros_add]; rfl
 rw [e]; exact this
theorem frameF_two (x : List Int) : ∃ r, frameF x = 215 :: 166 :: r := ⟨_, rfl⟩
/-- A body, and noughts; and the same with the first bytes of a frame laid behind it. -/
theorem torn (A F : List Int) (n p : Nat) (hn : 9 ≤ n) (hF : ∃ r, F = 215 :: 166 :: r) (hp : p ≤ A.length + 2) : ∃ t, (A ++ F).take p ++ (A ++ zeros n).drop p = A ++ t ∧ Tail t := by
 obtain ⟨r, rfl⟩ := hF
 by_cases h : p ≤ A.length
 ·refine ⟨zeros n, ?_, tail_zeros n⟩
  rw [List.take_append_of_le_length h, List.drop_append_of_le_length h, ← List.append_assoc, List.take_append_drop]
 ·rw [List.take_append, List.take_of_length_le (by omega), List.drop_append, List.drop_of_length_le (l := A) (by omega), List.nil_append, List.append_assoc]
  have hk : p - A.length = 1 ∨ p - A.length = 2 := by omega
  rcases hk with hk | hk
  ·rw [hk]
   refine ⟨_, rfl, ?_⟩
   have e : (215 :: 166 :: r : List Int).take 1 ++ (zeros n).drop 1 = 215 :: zeros (n - 1) := by
    unfold zeros; rw [List.drop_replicate]; rfl
   rw [e]; exact tail_one n hn
  ·rw [hk]
   refine ⟨_, rfl, ?_⟩
   have e : (215 :: 166 :: r : List Int).take 2 ++ (zeros n).drop 2 = 215 :: 166 :: zeros (n - 2) := by
    unfold zeros; rw [List.drop_replicate]; rfl
   rw [e]; exact tail_two n hn
theorem slot_set {now : List (List Int)} {i b : Nat} {x : List Int} (hn : now.length = 512) (h64 : All64 now) (hi : i < 32) (hb : b < 16) (hx : x.length = 64) (k : Nat) (hk : k < 32) : slotI (now.set (16 * i + b) x) k = if k = i then putI (slotI now i) (64 * b) x else slotI now k := by
 have key : ∀ (j : Nat), j ≤ 16 → partI (now.set (16 * i + b) x) k j = if k = i ∧ b < j then putI (partI now i j) (64 * b) x else partI now k j := by
  intro j
  induction j with
  | zero => intro _; rw [partI_zero, if_neg (by omega), partI_zero]
  | succ j ih =>
   intro hj
   rw [partI_succ _ _ _ (by rw [List.length_set]; omega), ih (by omega)]
   by_cases hki : k = i
   ·subst hki
    rw [List.getElem_set]
    have hlj := partI_len h64 (i := k) (b := j) (by omega)
    have hlb := partI_len h64 (i := k) (b := b) (by omega)
    by_cases h1 : b < j
    ·rw [if_pos (show k = k ∧ b < j from ⟨rfl, h1⟩), if_pos (show k = k ∧ b < j + 1 from ⟨rfl, by omega⟩), if_neg (show ¬ 16 * k + b = 16 * k + j by omega), partI_succ now k j (by omega)]
     unfold putI
     rw [List.take_append_of_le_length (by omega), List.drop_append_of_le_length (by omega), List.append_assoc, List.append_assoc]
    ·rw [if_neg (show ¬ (k = k ∧ b < j) by omega)]
     by_cases h2 : b = j
     ·subst h2
      rw [if_pos (show 16 * k + b = 16 * k + b from rfl), if_pos (show k = k ∧ b < b + 1 from ⟨rfl, by omega⟩), partI_succ now k b (by omega)]
      unfold putI
      have hll : (now[16 * k + b]'(by omega)).length = 64 := h64 _ (List.getElem_mem _)
      rw [List.take_left' hlb, List.drop_of_length_le (by rw [List.length_append]; omega), List.append_nil]
     ·rw [if_neg (show ¬ 16 * k + b = 16 * k + j by omega), if_neg (show ¬ (k = k ∧ b < j + 1) by omega), partI_succ now k j (by omega)]
   ·rw [if_neg (show ¬ (k = i ∧ b < j) by omega), if_neg (show ¬ (k = i ∧ b < j + 1) by omega), List.getElem_set, if_neg (show ¬ 16 * i + b = 16 * k + j by omega), partI_succ now k j (by omega)]
 unfold slotI
 rw [key 16 (Nat.le_refl _)]
 by_cases h : k = i
 ·rw [if_pos ⟨h, hb⟩, if_pos h]
 ·rw [if_neg (fun hh => h hh.1), if_neg h]
theorem slots_now {now : List (List Int)} {segs : List Seg} (h : NowIs now segs) (ho : SegsOk segs) (hl : segs.length < 32) : Slots now segs := by
 refine ⟨hl, fun i s hi => ?_, fun i h1 h2 => ?_⟩
 ·have hil := (List.getElem?_eq_some_iff.1 hi).1
  have e := h.slot i (by omega) (ho.imgLen i)
  rw [imgAt_some hi] at e
  refine ⟨zeros (1024 - endF s), ?_, tail_zeros _, fun _ => e⟩
  rw [e]
  unfold imgF over zeros
  rw [List.drop_replicate]
  rfl
 ·rw [h.slot i h1 (ho.imgLen i), imgAt_none h2]
set_option maxRecDepth 100000 in
theorem blk_zeros : blkF (zeros 1024) 15 = zeros 64 := by decide
theorem crash_slots {s : St} {safe : List Seg} {c : Nat} (hs : NowIs s.sure safe) (h64 : All64 s.sure) (ho : SegsOk safe) (hl : safe.length < 32) (hc : c < 3)
  (hw : s.wait = [] ∨ ∃ w r, s.wait = w :: r ∧ First safe w) : Slots (crashF s 0 c).now safe := by
 have hcn : cutN (c : Int) = c := by unfold cutN; rw [if_neg (by omega), if_neg (by omega)]; omega
 show Slots (crashL (cutN (c : Int)) s.wait 0 s.sure) safe
 rw [hcn]
 rcases hw with hw | ⟨w, r, hw, hf⟩
 ·rw [hw]; exact slots_now hs ho hl
 ·rw [hw]
  show Slots (if (0 : Int) ≤ 0 then s.sure.set w.pos (over (s.sure.getD w.pos []) (w.b.take c)) else _) safe
  rw [if_pos (Int.le_refl 0)]
  have old := slots_now hs ho hl
  rcases hf with ⟨hp, hb, hl2⟩ | ⟨ol, cur, e, he, h0, hfit, hl2, hp, hb⟩
  ·have hg : s.sure[w.pos]? = some (zeros 64) := by
    rw [hp, hs.at_ safe.length 15 hl2 (by omega), imgAt_none (Nat.le_refl _), blk_zeros]
   have hd : s.sure.getD w.pos [] = zeros 64 := by rw [List.getD, hg]; rfl
   rw [hd, hb, over_take (zeros 64) (zeros 64) c rfl (by rw [zeros_len]; omega) (by rw [zeros_len]; omega)]
   have e : s.sure.set w.pos (zeros 64) = s.sure := by
    apply List.ext_getElem?
    intro k
    rw [List.getElem?_set]
    split
    ·rename_i hk
     rw [← hk, hg]
     split
     ·rfl
     ·rename_i hh
      rw [List.getElem?_eq_none (by omega)] at hg
      cases hg
    ·rfl
   rw [e]
   exact old
  ·have hcs : imgAt safe ol.length = imgF cur := by rw [he, imgAt_app, if_pos rfl]
   have hbl : endF cur / 64 < 16 := by omega
   have hg : s.sure[w.pos]? = some (blkF (imgF cur) (endF cur / 64)) := by
    rw [hp, hs.at_ ol.length _ hl2 hbl, hcs]
   have hd : s.sure.getD w.pos [] = blkF (imgF cur) (endF cur / 64) := by rw [List.getD, hg]; rfl
   have hil : (imgF cur).length = 1024 := imgF_len _ (by omega)
   have hil2 : (imgF (cur.add e)).length = 1024 := imgF_len _ (by rw [endF_add]; exact hfit)
   have hbl1 : (blkF (imgF cur) (endF cur / 64)).length = 64 := blkF_len hil hbl
   have hbl2 : (blkF (imgF (cur.add e)) (endF cur / 64)).length = 64 := blkF_len hil2 hbl
   have hxl : (over (blkF (imgF cur) (endF cur / 64)) ((blkF (imgF (cur.add e)) (endF cur / 64)).take c)).length = 64 := by
    rw [over_len _ _ (by rw [List.length_take]; omega), hbl1]
   rw [hd, hb, hp]
   have hset : ∀ k, k < 32 → slotI (s.sure.set (16 * ol.length + endF cur / 64) (over (blkF (imgF cur) (endF cur / 64)) ((blkF (imgF (cur.add e)) (endF cur / 64)).take c))) k = if k = ol.length then putI (imgF cur) (64 * (endF cur / 64)) (over (blkF (imgF cur) (endF cur / 64)) ((blkF (imgF (cur.add e)) (endF cur / 64)).take c)) else slotI s.sure k := by
    intro k hk
    rw [slot_set hs.len h64 hl2 hbl hxl k hk, hs.slot ol.length hl2 (ho.imgLen _), hcs]
   have hsl : safe.length = ol.length + 1 := by rw [he, List.length_append]; rfl
   refine ⟨hl, fun i sg hi => ?_, fun i h1 h2 => ?_⟩
   ·have hil' := (List.getElem?_eq_some_iff.1 hi).1
    rw [hset i (by omega)]
    by_cases hio : i = ol.length
    ·subst hio
     have hsg : sg = cur := by
      rw [he, List.getElem?_append_right (Nat.le_refl _), Nat.sub_self] at hi
      exact (Option.some.inj hi).symm
     subst hsg
     rw [if_pos rfl]
     have hbo : (bodyF sg).length = endF sg := rfl
     obtain ⟨t, h1, h2⟩ := torn (bodyF sg) (frameF (entF e) ++ zeros (1024 - endF sg - (8 + (entF e).length))) (1024 - endF sg) (64 * (endF sg / 64) + c) (by omega) (by obtain ⟨r, hr⟩ := frameF_two (entF e); exact ⟨_, by rw [hr]; rfl⟩) (by omega)
     refine ⟨t, ?_, h2, fun hh => by omega⟩
     rw [← h1]
     have e1 : imgF sg = bodyF sg ++ zeros (1024 - endF sg) := by
      unfold imgF over zeros; rw [List.drop_replicate]; rfl
     have e2 : imgF (sg.add e) = bodyF sg ++ (frameF (entF e) ++ zeros (1024 - endF sg - (8 + (entF e).length))) := by
      unfold imgF over zeros
      rw [List.drop_replicate, bodyF_add, List.append_assoc, List.length_append, frameF_len, Nat.sub_sub, hbo]
     have e3 : (imgF (sg.add e)).take (64 * (endF sg / 64)) = (imgF sg).take (64 * (endF sg / 64)) := by
      rw [e1, e2, List.take_append_of_le_length (by omega), List.take_append_of_le_length (by omega)]
     rw [← e1, ← e2]
     unfold putI
     rw [hxl]
     unfold over blkF
     rw [show endF sg / 64 * 64 = 64 * (endF sg / 64) by omega]
     rw [List.take_take, Nat.min_eq_left (by omega), List.take_add, ← e3]
     rw [List.append_assoc, List.append_assoc]
     congr 2
     rw [List.length_take, List.length_drop, hil2, Nat.min_eq_left (by omega), List.drop_take, List.drop_drop]
     have : (imgF sg).drop (64 * (endF sg / 64) + c) = ((imgF sg).drop (64 * (endF sg / 64) + c)).take (64 - c) ++ ((imgF sg).drop (64 * (endF sg / 64) + c)).drop (64 - c) := (List.take_append_drop _ _).symm
     conv => rhs; rw [this, List.drop_drop]
     rw [show 64 * (endF sg / 64) + c + (64 - c) = 64 * (endF sg / 64) + 64 by omega]
    ·rw [if_neg hio]
     exact old.sgs i sg hi
   ·rw [hset i h1, if_neg (by omega)]
    exact old.rest i h1 h2
/-! ### One more entry, a flush -/
/-- The journal and its disk, as they are said. -/
structure DInv (segs safe : List Seg) (s : St) : Prop where
 ok : SegsOk segs
 oks : SegsOk safe
 now : NowIs s.now segs
 sure : NowIs s.sure safe
 lit : LitS s
 nx : nextL segs = (allE segs).length + 1
 cnt : ∀ old cur, segs = old ++ [cur] → 22 * old.length ≤ (allE old).length
 cnts : safe.length ≤ segs.length
 wl : s.wait.length ≤ 40 * (allE segs).length
 first : (s.wait = [] ∧ segs = safe) ∨ ∃ w r, s.wait = w :: r ∧ First safe w
theorem allE_app (a b : List Seg) : allE (a ++ b) = allE a ++ allE b := by unfold allE; rw [List.flatMap_append]
theorem allE_one (s : Seg) : allE [s] = s.l := by unfold allE; simp
theorem nil_or_snoc (l : List Seg) : l = [] ∨ ∃ a b, l = a ++ [b] := by
 rcases List.eq_nil_or_concat l with h | ⟨a, b, h⟩
 ·exact .inl h
 ·exact .inr ⟨a, b, by rw [h, List.concat_eq_append]⟩
theorem DInv.small {segs safe : List Seg} {s : St} (h : DInv segs safe s) (hn : (allE segs).length ≤ 100) : segs.length ≤ 5 ∧ safe.length ≤ 5 := by
 have h2 := h.cnts
 rcases nil_or_snoc segs with h0 | ⟨old, cur, h0⟩
 ·rw [h0] at h2 ⊢; exact ⟨Nat.zero_le _, by rw [List.length_nil] at h2; omega⟩
 ·have := h.cnt old cur h0
  rw [h0, List.length_append] at h2
  rw [h0, allE_app, List.length_append] at hn
  rw [h0, List.length_append]
  simp at h2 ⊢
  omega
theorem DInv.flush {segs safe : List Seg} {s : St} (h : DInv segs safe s) : DInv segs segs (flS s) :=
 ⟨h.ok, h.ok, h.now, h.now, h.lit.fl, h.nx, h.cnt, Nat.le_refl _, Nat.zero_le _, .inl ⟨rfl, rfl⟩⟩
theorem DInv.slots {segs safe : List Seg} {s : St} {c : Nat} (h : DInv segs safe s) (h64 : All64 s.sure) (hn : (allE segs).length ≤ 100) (hc : c < 3) : Slots (crashF s 0 c).now safe :=
 crash_slots h.sure h64 h.oks (by have := (h.small hn).2; omega) hc (h.first.imp (fun x => x.1) id)
theorem SegOk.add {cur : Seg} {e : Ent} (h : SegOk cur ∨ (cur.l = [] ∧ 1 ≤ cur.first ∧ cur.first < 100000 ∧ cur.no < 32)) (he : EntOk e) (hl : e.lsn = ((cur.first + cur.l.length : Nat) : Int)) (hf : endF cur + (8 + (entF e).length) ≤ 1024) (hlen : cur.l.length < 900) : SegOk (cur.add e) := by
 have h0 : (∀ x ∈ cur.l, EntOk x) ∧ (∀ (i : Nat) (x : Ent), cur.l[i]? = some x → x.lsn = ((cur.first + i : Nat) : Int)) ∧ 1 ≤ cur.first ∧ cur.first < 100000 ∧ cur.no < 32 := by
  rcases h with h | ⟨a, b, c, d⟩
  ·exact ⟨h.ok, h.lsn, h.f1, h.f2, h.n1⟩
  ·rw [a]; exact ⟨(fun x hx => by cases hx), (fun i x hx => by simp at hx), b, c, d⟩
 obtain ⟨a, b, c, d, f⟩ := h0
 refine ⟨by simp [Seg.add], fun x hx => ?_, fun i x hx => ?_, by rw [endF_add]; exact hf, c, d, f, by simp [Seg.add]; omega⟩
 ·rcases List.mem_append.1 (show x ∈ cur.l ++ [e] from hx) with hx | hx
  ·exact a x hx
  ·rw [List.mem_singleton.1 hx]; exact he
 ·have hx : (cur.l ++ [e])[i]? = some x := hx
  by_cases hi : i < cur.l.length
  ·rw [List.getElem?_append_left hi] at hx
   exact b i x hx
  ·have hi2 : i = cur.l.length := by
    have := (List.getElem?_eq_some_iff.1 hx).1
    simp at this; omega
   subst hi2
   rw [List.getElem?_append_right (Nat.le_refl _), Nat.sub_self] at hx
   rw [← Option.some.inj hx]
   exact hl
theorem laid_len (no : Nat) (img : List Int) (is : List Nat) (s : St) : (laid s no img is).wait.length = s.wait.length + is.length := laid_wait is s
theorem DInv.append {segs safe : List Seg} {s : St} {e : Ent} (h : DInv segs safe s) (he : EntOk e) (hl : e.lsn = ((nextL segs : Nat) : Int)) (hn : (allE segs).length < 100) :
  DInv (appS segs s e).1 safe (appS segs s e).2 ∧ allE (appS segs s e).1 = allE segs ++ [e] := by
 have hsm := h.small (by omega)
 have hel := entF_le he
 by_cases ht : turnsF segs e = true
 ·have hp := preS_turn segs s e ht
  have e0 : appS segs s e = (segs ++ [(newSeg segs).add e], layS (turnS s (newSeg segs)) (newSeg segs) e) := by unfold appS; rw [hp]
  rw [e0]
  have hen : endF (newSeg segs) = 21 := endF_nil _ _
  have hall : allE (segs ++ [(newSeg segs).add e]) = allE segs ++ [e] := by rw [allE_app, allE_one]; rfl
  have hfit : endF (newSeg segs) + (8 + (entF e).length) ≤ 1024 := by omega
  have hnx := h.nx
  have hcur : SegOk ((newSeg segs).add e) := SegOk.add (.inr ⟨rfl, by show 1 ≤ nextL segs; omega, by show nextL segs < 100000; omega, by show segs.length < 32; omega⟩) he hl hfit (Nat.zero_lt_succ _)
  have hnow := now_turn h.now (by omega)
  refine ⟨⟨⟨fun i x hx => ?_, fun i x y hx hy => ?_, fun x hx => ?_⟩, h.oks, now_lay hnow (by omega) rfl hfit, ?_, laid_lit _ (laid_lit _ h.lit), ?_, fun old cur ho => ?_, ?_, ?_, ?_⟩, hall⟩
  ·by_cases hi : i < segs.length
   ·rw [List.getElem?_append_left hi] at hx; exact h.ok.all i x hx
   ·have hi2 : i = segs.length := by have := (List.getElem?_eq_some_iff.1 hx).1; simp at this; omega
    subst hi2
    rw [List.getElem?_append_right (Nat.le_refl _), Nat.sub_self] at hx
    rw [← Option.some.inj hx]
    exact ⟨hcur, rfl⟩
  ·have hi1 : i + 1 ≤ segs.length := by have := (List.getElem?_eq_some_iff.1 hy).1; simp at this; omega
   rw [List.getElem?_append_left (by omega)] at hx
   by_cases hi : i + 1 < segs.length
   ·rw [List.getElem?_append_left hi] at hy; exact h.ok.chain i x y hx hy
   ·have hi2 : i + 1 = segs.length := by omega
    rw [List.getElem?_append_right (by omega), hi2, Nat.sub_self] at hy
    rw [← Option.some.inj hy]
    show nextL segs = _
    unfold nextL
    rw [List.getLast?_eq_getElem?, show segs.length - 1 = i by omega, hx]
  ·by_cases h0 : segs.length = 0
   ·have h1 := List.eq_nil_of_length_eq_zero h0
    subst h1
    rw [← Option.some.inj hx]
    rfl
   ·rw [List.getElem?_append_left (by omega)] at hx
    exact h.ok.head x hx
  ·show NowIs (laid (laid s _ _ _) _ _ _).sure safe
   rw [laid_sure, laid_sure]; exact h.sure
  ·rw [hall, nextL_snoc, List.length_append]
   show nextL segs + ([] ++ [e]).length = _
   simp
   omega
  ·have := List.append_inj' ho rfl
   obtain ⟨rfl, _⟩ := this
   rcases nil_or_snoc segs with h0 | ⟨old, cur, h0⟩
   ·rw [h0]; exact Nat.zero_le _
   ·have hc := h.cnt old cur h0
    have hb := h.ok
    rw [h0] at hb
    have hb := endF_bound cur (hb.cur.1.ok)
    rw [h0, turnsF_snoc] at ht
    have ht := of_decide_eq_true ht
    rw [h0, allE_app, allE_one, List.length_append, List.length_append]
    simp
    omega
  ·have := h.cnts
   rw [List.length_append]; omega
  ·show (laid (laid s _ _ _) _ _ _).wait.length ≤ _
   rw [laid_len, laid_len, hall, List.length_append]
   have := h.wl
   have e1 : (downTo 16).length = 16 := by decide
   rw [e1, List.length_range']
   simp
   omega
  ·right
   rcases h.first with ⟨h1, h2⟩ | ⟨w, r, h1, h2⟩
   ·obtain ⟨w, r, a, b⟩ := first_turn s segs h1 (by omega)
    obtain ⟨r', hr⟩ := laid_first (no := (newSeg segs).no) (img := imgF ((newSeg segs).add e)) (is := List.range' (endF (newSeg segs) / 64) ((endF (newSeg segs) + (8 + (entF e).length) + 63) / 64 - endF (newSeg segs) / 64)) a
    exact ⟨w, r', hr, h2 ▸ b⟩
   ·obtain ⟨r1, hr1⟩ := laid_first (no := (newSeg segs).no) (img := img0 (newSeg segs).no (newSeg segs).first) (is := downTo 16) h1
    obtain ⟨r', hr⟩ := laid_first (no := (newSeg segs).no) (img := imgF ((newSeg segs).add e)) (is := List.range' (endF (newSeg segs) / 64) ((endF (newSeg segs) + (8 + (entF e).length) + 63) / 64 - endF (newSeg segs) / 64)) hr1
    exact ⟨w, r', hr, h2⟩
 ·have ht : turnsF segs e = false := by simpa using ht
  rcases nil_or_snoc segs with h0 | ⟨old, cur, h0⟩
  ·rw [h0] at ht; cases ht
  ·subst h0
   have hp := preS_stay old cur s e ht
   have e0 : appS (old ++ [cur]) s e = (old ++ [cur.add e], layS s cur e) := by unfold appS; rw [hp]
   rw [e0]
   have hall : allE (old ++ [cur.add e]) = allE (old ++ [cur]) ++ [e] := by rw [allE_app, allE_app, allE_one, allE_one, List.append_assoc]; rfl
   rw [turnsF_snoc] at ht
   have ht := of_decide_eq_false ht
   have hfit : endF cur + (8 + (entF e).length) ≤ 1024 := by omega
   have hnx := h.nx
   obtain ⟨hok, hno⟩ := h.ok.cur
   rw [nextL_snoc] at hl
   have hlen2 : cur.l.length < 100 := by rw [allE_app, allE_one, List.length_append] at hn; omega
   have hcur : SegOk (cur.add e) := SegOk.add (.inl hok) he hl hfit (by omega)
   have hol := h.ok.len
   refine ⟨⟨⟨fun i x hx => ?_, fun i x y hx hy => ?_, fun x hx => ?_⟩, h.oks, now_lay h.now hol hno hfit, ?_, laid_lit _ h.lit, ?_, fun old' cur' ho => ?_, ?_, ?_, ?_⟩, hall⟩
   ·by_cases hi : i < old.length
    ·rw [List.getElem?_append_left hi] at hx; exact h.ok.all i x (by rw [List.getElem?_append_left hi]; exact hx)
    ·have hi2 : i = old.length := by have := (List.getElem?_eq_some_iff.1 hx).1; simp at this; omega
     subst hi2
     rw [List.getElem?_append_right (Nat.le_refl _), Nat.sub_self] at hx
     rw [← Option.some.inj hx]
     exact ⟨hcur, hno⟩
   ·have hi1 : i + 1 ≤ old.length := by have := (List.getElem?_eq_some_iff.1 hy).1; simp at this; omega
    rw [List.getElem?_append_left (by omega)] at hx
    by_cases hi : i + 1 < old.length
    ·rw [List.getElem?_append_left hi] at hy
     exact h.ok.chain i x y (by rw [List.getElem?_append_left (by omega)]; exact hx) (by rw [List.getElem?_append_left hi]; exact hy)
    ·have hi2 : i + 1 = old.length := by omega
     rw [List.getElem?_append_right (by omega), hi2, Nat.sub_self] at hy
     rw [← Option.some.inj hy]
     exact h.ok.chain i x cur (by rw [List.getElem?_append_left (by omega)]; exact hx) (by rw [List.getElem?_append_right (by omega), hi2, Nat.sub_self]; rfl)
   ·by_cases h0 : old.length = 0
    ·have h1 := List.eq_nil_of_length_eq_zero h0
     subst h1
     rw [← Option.some.inj hx]
     exact h.ok.head cur rfl
    ·rw [List.getElem?_append_left (by omega)] at hx
     exact h.ok.head x (by rw [List.getElem?_append_left (by omega)]; exact hx)
   ·show NowIs (laid s _ _ _).sure safe
    rw [laid_sure]; exact h.sure
   ·rw [hall, nextL_snoc, List.length_append]
    rw [nextL_snoc] at hnx
    show cur.first + (cur.l ++ [e]).length = _
    rw [List.length_append]
    simp
    omega
   ·obtain ⟨rfl, _⟩ := List.append_inj' ho rfl
    exact h.cnt old cur rfl
   ·have := h.cnts
    rw [List.length_append] at this ⊢
    simpa using this
   ·show (laid s _ _ _).wait.length ≤ _
    rw [laid_len, hall, List.length_append (bs := [e]), List.length_range']
    have := h.wl
    simp only [List.length_singleton]
    omega
   ·right
    rcases h.first with ⟨h1, h2⟩ | ⟨w, r, h1, h2⟩
    ·obtain ⟨w, r, a, b⟩ := first_lay s old cur e h1 hol hno hel.1 hfit
     exact ⟨w, r, a, h2 ▸ b⟩
    ·obtain ⟨r', hr⟩ := laid_first (no := cur.no) (img := imgF (cur.add e)) (is := List.range' (endF cur / 64) ((endF cur + (8 + (entF e).length) + 63) / 64 - endF cur / 64)) h1
     exact ⟨w, r', hr, h2⟩
end Go.Proofs.YthfjhgdiakciaaaGreat.Bl
/- The law's plans may be; a new disk holds an empty journal. -/
namespace Go.Proofs.YthfjhgdiakciaaaGreat.Bl
open Go.RowKit
set_option linter.unusedVariables false
set_option linter.unusedSimpArgs false
theorem planL_ok : PsOk planL := by
 refine ⟨by decide, fun p hp => ?_⟩
 unfold planL at hp
 simp only [List.mem_cons, List.not_mem_nil, or_false] at hp
 rcases hp with rfl | rfl | rfl <;>
 ·refine ⟨by decide, by decide, fun s hs => ?_⟩
  simp only [List.mem_cons, List.not_mem_nil, or_false] at hs
  rcases hs with rfl | rfl | rfl | rfl <;> exact ⟨by simp [NameOk, ByteOk]⟩
theorem now_new : NowIs (List.replicate 512 zero64) [] := by
 refine ⟨List.length_replicate, fun i b hi hb => ?_⟩
 rw [List.getElem?_replicate, if_pos (by omega)]
 congr 1
 unfold imgAt blkF zeros zero64
 rw [List.getElem?_nil]
 dsimp only
 rw [List.drop_replicate, List.take_replicate, Nat.min_eq_left (by omega)]
theorem dinv_new : DInv [] [] (newS 512) := by
 refine ⟨⟨fun i s h => by simp at h, fun i s t h => by simp at h, fun s h => by simp at h⟩, ⟨fun i s h => by simp at h, fun i s t h => by simp at h, fun s h => by simp at h⟩, now_new, now_new, ⟨rfl, rfl, rfl⟩, rfl, fun old cur h => ?_, Nat.le_refl _, Nat.zero_le _, .inl ⟨rfl, rfl⟩⟩
 have := congrArg List.length h
 simp at this
end Go.Proofs.YthfjhgdiakciaaaGreat.Bl
/- The law's state: what lies in memory at the head of its loop, and how a round changes it. Plain. No condition. -/
namespace Go.Proofs.YthfjhgdiakciaaaGreat.Bl
open Go.RowKit Go.Maps
set_option linter.unusedVariables false
set_option linter.unusedSimpArgs false
/-- A ledger's orders, out of the entries that it took. -/
inductive Fold (ps : List (List Stp)) : List Ent → List Or → Prop
 | nil : Fold ps [] []
 | snoc {es : List Ent} {l l' : List Or} {e : Ent} : Fold ps es l → Step ps l e l' → EntOk e → e.lsn = (es.length : Int) + 1 → Fold ps (es ++ [e]) l'
theorem Step.len {ps : List (List Stp)} {l l' : List Or} {e : Ent} (h : Step ps l e l') : l'.length ≤ l.length + 1 := by
 cases h <;> simp
theorem Fold.len {ps : List (List Stp)} {es : List Ent} {l : List Or} (h : Fold ps es l) : l.length ≤ es.length := by
 induction h with
 | nil => exact Nat.le_refl _
 | snoc _ hs _ _ ih => have := hs.len; rw [List.length_append]; simp; omega
theorem Fold.lok {ps : List (List Stp)} (hp : PsOk ps) {es : List Ent} {l : List Or} (h : Fold ps es l) (hl : es.length ≤ 400) : LOk ps l := by
 induction h with
 | nil => exact ⟨fun o h => (by cases h), by decide⟩
 | snoc hf hs _ _ ih =>
  rw [List.length_append] at hl
  simp at hl
  have := hf.len
  exact hs.ok hp (ih (by omega)) (by omega)
theorem Fold.at {ps : List (List Stp)} {es : List Ent} {l : List Or} (h : Fold ps es l) : ∀ i, i ≤ es.length → ∃ li, Fold ps (es.take i) li ∧ (i = es.length → li = l) ∧ ∀ (hi : i < es.length), ∃ l', Fold ps (es.take (i + 1)) l' ∧ Step ps li es[i] l' ∧ EntOk es[i] ∧ es[i].lsn = (i : Int) + 1 := by
 induction h with
 | nil =>
  intro i hi
  obtain rfl : i = 0 := by simpa using hi
  exact ⟨[], .nil, fun _ => rfl, fun h => by simp at h⟩
 | snoc hf hs hok hlsn ih =>
  rename_i es l l' e
  intro i hi
  rw [List.length_append] at hi
  simp at hi
  by_cases h1 : i < es.length
  ·obtain ⟨li, a, b, c⟩ := ih i (by omega)
   refine ⟨li, by rw [List.take_append_of_le_length (by omega)]; exact a, fun h => by simp at h; omega, fun h => ?_⟩
   obtain ⟨l2, a2, b2, c2⟩ := c h1
   rw [List.getElem_append_left h1]
   exact ⟨l2, by rw [List.take_append_of_le_length (by omega)]; exact a2, b2, c2⟩
  ·by_cases h2 : i = es.length
   ·subst h2
    refine ⟨l, by rw [List.take_append_of_le_length (Nat.le_refl _), List.take_length]; exact hf, fun h => by simp at h, fun h => ?_⟩
    refine ⟨l', ?_, ?_⟩
    ·rw [List.take_of_length_le (by simp)]; exact .snoc hf hs hok hlsn
    ·simp only [List.getElem_concat_length]
     exact ⟨hs, hok, hlsn⟩
   ·have h3 : i = es.length + 1 := by omega
    subst h3
    refine ⟨l', by rw [List.take_of_length_le (by simp)]; exact .snoc hf hs hok hlsn, fun _ => rfl, fun h => by simp at h⟩
theorem colL_mem {f : Sg → Option Dn} {u : Du} : ∀ (l : List Or) (n : Nat), u ∈ colL f n l → ∃ i o, l[i]? = some o ∧ f o.sg = some u.d ∧ u.no = n + i
 | [], _, h => by simp [colL] at h
 | o :: r, n, h => by
  rcases List.mem_append.1 (show u ∈ oneL f n o ++ colL f (n + 1) r from h) with h | h
  ·unfold oneL at h
   cases hd : f o.sg with
   | none => rw [hd] at h; cases h
   | some d =>
    rw [hd] at h
    obtain rfl := List.mem_singleton.1 h
    exact ⟨0, o, rfl, hd, rfl⟩
  ·obtain ⟨i, o', a, b, c⟩ := colL_mem r (n + 1) h
   exact ⟨i + 1, o', by simpa using a, b, by omega⟩
/-- What the law does with an entry: it comes, or is an order whose key is there. -/
def Todo (l : List Or) (e : Ent) : Prop := (∃ l', Step planL l e l') ∨ ∃ k d : Nat, e.kind = 2 ∧ e.order = (l.length : Int) + 1 ∧ e.key = [(k : Int)] ∧ e.data = [(d : Int)] ∧ k < 256 ∧ d < planL.length ∧ ∃ o ∈ l, o.key = k
def ordE (last n k d : Nat) : Ent := ⟨2, (last : Int) + 1, (n : Int) + 1, 0, false, 0, 0, [(k : Int)], [(d : Int)]⟩
def intE (last : Nat) (u : Du) : Ent := ⟨3, (last : Int) + 1, u.no, u.d.st, u.d.undo, u.d.tr, 0, [], []⟩
def resE (last : Nat) (u : Du) (c : Nat) : Ent := ⟨4, (last : Int) + 1, u.no, u.d.st, u.d.undo, u.d.tr, 1 + (c : Int), [], []⟩
theorem ordE_ok (last n k d : Nat) (h1 : last < 900000) (h2 : n < 900000) (h3 : k < 256) (h4 : d < 256) : EntOk (ordE last n k d) :=
 ⟨⟨by simp only [ordE]; omega, by simp only [ordE]; omega⟩, ⟨by simp only [ordE]; omega, by simp only [ordE]; omega⟩, .inl ⟨rfl, rfl, rfl, fun y hy => by rw [List.mem_singleton.1 hy]; omega, fun y hy => by rw [List.mem_singleton.1 hy]; omega, rfl, rfl, rfl, rfl⟩⟩
theorem ordE_todo (last k d : Nat) (l : List Or) (h3 : k < 256) (h4 : d < planL.length) : Todo l (ordE last l.length k d) := by
 by_cases h : ∃ o ∈ l, o.key = k
 ·exact .inr ⟨k, d, rfl, rfl, rfl, rfl, h3, h4, h⟩
 ·exact .inl ⟨_, .order k d rfl rfl rfl rfl h3 h4 (fun o ho e => h ⟨o, ho, e⟩)⟩
theorem sg_small {p : List Stp} (hp : PlanOk p) {s : Sg} (h : SgOk p s) : s.st < 16 ∧ s.tr ≤ 2 := by
 have := hp.l2
 cases h with
 | over c a b => exact ⟨by simp [overS], by simp [overS]⟩
 | idle ph st tr x a b c => have := (List.getElem?_eq_some_iff.1 a).1; exact ⟨by simp only; omega, by simp only; omega⟩
 | wait ph st tr x a b c d => have := (List.getElem?_eq_some_iff.1 a).1; exact ⟨by simp only; omega, by simp only; omega⟩
theorem nextS_dn {s : Sg} {d : Dn} (h : nextS s = some d) : d = ⟨s.st, s.ph == 2, s.tr + 1⟩ := by
 unfold nextS at h
 split at h
 ·cases h
 ·exact (Option.some.inj h).symm
theorem askedS_dn {s : Sg} {d : Dn} (h : askedS s = some d) : s.asked = true ∧ d = ⟨s.st, s.ph == 2, s.tr⟩ := by
 unfold askedS at h
 split at h
 ·exact ⟨‹_›, (Option.some.inj h).symm⟩
 ·cases h
theorem intE_ok {l : List Or} (hlo : LOk planL l) (last : Nat) (h1 : last < 900000) {u : Du} (hu : u ∈ colL nextS 1 l) : EntOk (intE last u) ∧ Todo l (intE last u) := by
 obtain ⟨i, o, a, b, c⟩ := colL_mem l 1 hu
 obtain ⟨p, hp, hs⟩ := hlo.at a
 have hi := (List.getElem?_eq_some_iff.1 a).1
 have hl := hlo.len
 obtain ⟨s1, s2⟩ := sg_small (planL_ok.ok p (List.mem_of_getElem? hp)) hs
 have hd := nextS_dn b
 have e1 : (u.no : Int) = (i : Int) + 1 := by omega
 refine ⟨⟨⟨by simp only [intE]; omega, by simp only [intE]; omega⟩, ⟨by simp only [intE]; omega, by simp only [intE]; omega⟩, .inr (.inl ⟨rfl, rfl, rfl, ?_, ?_, ?_, ?_, rfl⟩)⟩, .inl ⟨_, .intent i o u.d rfl e1 a b rfl rfl rfl⟩⟩ <;> simp only [intE, hd] <;> omega
theorem resE_ok {l : List Or} (hlo : LOk planL l) (last c : Nat) (h1 : last < 900000) (hc : c < 3) {u : Du} (hu : u ∈ colL askedS 1 l) : EntOk (resE last u c) ∧ Todo l (resE last u c) := by
 obtain ⟨i, o, a, b, e⟩ := colL_mem l 1 hu
 obtain ⟨p, hp, hs⟩ := hlo.at a
 have hi := (List.getElem?_eq_some_iff.1 a).1
 have hl := hlo.len
 obtain ⟨s1, s2⟩ := sg_small (planL_ok.ok p (List.mem_of_getElem? hp)) hs
 obtain ⟨ha, hd⟩ := askedS_dn b
 have e1 : (u.no : Int) = (i : Int) + 1 := by omega
 have htr : 1 ≤ o.sg.tr := by
  generalize o.sg = s at *
  cases hs with
  | over c a b => cases ha
  | idle ph st tr x a b c => cases ha
  | wait ph st tr x a b c d => exact c
 refine ⟨⟨⟨by simp only [resE]; omega, by simp only [resE]; omega⟩, ⟨by simp only [resE]; omega, by simp only [resE]; omega⟩, .inr (.inr ⟨rfl, rfl, rfl, ?_, ?_, ?_, ?_, ?_, ?_⟩)⟩, .inl ⟨_, .result i o p (c + 1) rfl e1 a ha hp (by simp only [resE, hd]) (by simp only [resE, hd]) (by simp only [resE, hd]) (by simp only [resE]; omega) (by omega)⟩⟩ <;> simp only [resE, hd] <;> omega
/-- What lies in memory at the head of the law's loop. -/
structure TopAt (W w : World) (db jb lb mb i : Nat) (sv : Value) (segs safe : List Seg) (s : St) (l ls : List Or) (OD OS OP OL OE : Nat → Prop) (vs pv lv : Value) (sf : Int) (last : Nat) (tk nt : Int) : Prop where
 j : JBlk w jb db vs sf
 d : Disk w OD db 512 s
 v : JV w OS vs segs
 ap : Apart w OD OS jb
 inv : DInv segs safe s
 led : LedAt w OP OL lb mb pv lv planL l last tk nt
 f : Fold planL (allE segs) l
 fs : Fold planL (allE safe) ls
 row : EntRow w OE sv (allE safe)
 lst : last = (allE segs).length
 n : (allE segs).length ≤ i
 ns : (allE safe).length ≤ i
 x1 : ∀ k, (OD k ∨ OS k ∨ k = jb) → ¬ OP k ∧ ¬ OL k ∧ k ≠ lb ∧ k ≠ mb ∧ ¬ OE k
 x2 : ∀ k, (OP k ∨ OL k ∨ k = lb ∨ k = mb) → ¬ OE k
 lo : ∀ k, (OD k ∨ OS k ∨ k = jb ∨ OP k ∨ OL k ∨ k = lb ∨ k = mb ∨ OE k) → W.heap.size ≤ k
 oe : ∀ k, OE k → k < w.heap.size
 low : Below W.heap.size W w
section
variable {W w w' : World} {db jb lb mb i last : Nat} {sv vs pv lv : Value} {segs safe : List Seg} {s : St} {l ls : List Or} {OD OS OP OL OE : Nat → Prop} {sf tk nt : Int}
theorem TopAt.jlt (h : TopAt W w db jb lb mb i sv segs safe s l ls OD OS OP OL OE vs pv lv sf last tk nt) : jb < w.heap.size := blk_lt h.j
/-- Nothing of it turned. -/
theorem TopAt.keep (h : TopAt W w db jb lb mb i sv segs safe s l ls OD OS OP OL OE vs pv lv sf last tk nt) (hb : Below w.heap.size w w') : TopAt W w' db jb lb mb i sv segs safe s l ls OD OS OP OL OE vs pv lv sf last tk nt where
 j := (hb.block jb h.jlt).trans h.j
 d := h.d.below hb (Nat.le_refl _)
 v := h.v.keep (fun k _ hk => hb.block k hk) hb.size
 ap := h.ap.grow hb.size
 inv := h.inv
 led := h.led.keep (fun k _ hk => hb.block k hk) hb.size
 f := h.f
 fs := h.fs
 row := h.row.keep (fun k _ hk => hb.block k hk) hb.size
 lst := h.lst
 n := h.n
 ns := h.ns
 x1 := h.x1
 x2 := h.x2
 lo := h.lo
 oe := fun k hk => Nat.lt_of_lt_of_le (h.oe k hk) hb.size
 low := h.low.trans (hb.mono h.low.size)
theorem TopAt.more (h : TopAt W w db jb lb mb i sv segs safe s l ls OD OS OP OL OE vs pv lv sf last tk nt) : TopAt W w db jb lb mb (i + 1) sv segs safe s l ls OD OS OP OL OE vs pv lv sf last tk nt :=
 { h with n := Nat.le_succ_of_le h.n, ns := Nat.le_succ_of_le h.ns }
/-- The journal's and the disk's blocks stand where the ledger turned. -/
theorem TopAt.jd (h : TopAt W w db jb lb mb i sv segs safe s l ls OD OS OP OL OE vs pv lv sf last tk nt) (hf : Frame (fun k => OL k ∨ k = lb ∨ k = mb) w w') : JBlk w' jb db vs sf ∧ Disk w' OD db 512 s ∧ JV w' OS vs segs ∧ Apart w' OD OS jb ∧ EntRow w' OE sv (allE safe) := by
 have kb : ∀ k, (OD k ∨ OS k ∨ k = jb) → k < w.heap.size → w'.heap[k]? = w.heap[k]? := fun k hk hl => hf.block k hl (fun e => by
  have := h.x1 k hk
  rcases e with e | e | e
  ·exact this.2.1 e
  ·exact this.2.2.1 e
  ·exact this.2.2.2.1 e)
 have hs := hf.low.size
 exact ⟨(kb jb (.inr (.inr rfl)) h.jlt).trans h.j, h.d.keep (fun k hk hl => kb k (.inl hk) hl), h.v.keep (fun k hk hl => kb k (.inr (.inl hk)) hl) hs, h.ap.grow hs, h.row.keep (fun k hk hl => hf.block k hl (fun e => h.x2 k (.inr e) hk)) hs⟩
/-- An entry came: the ledger first, the journal then. -/
theorem TopAt.step (h : TopAt W w db jb lb mb i sv segs safe s l ls OD OS OP OL OE vs pv lv sf last tk nt) {w1 w2 : World} {e : Ent} {l' : List Or} (hok : EntOk e) (hlsn : e.lsn = (last : Int) + 1) (hst : Step planL l e l') (hi : i < 100) (hL : LedNext w w1 OP OL lb mb pv planL l' (last + 1) nt)
  {OD' OS' : Nat → Prop} {vs' : Value} (q1 : JBlk w2 jb db vs' sf) (q2 : Disk w2 OD' db 512 (appS segs s e).2) (q3 : JV w2 OS' vs' (appS segs s e).1) (q4 : Apart w2 OD' OS' jb) (q5 : ∀ k, OD' k ∨ OS' k → OD k ∨ OS k ∨ w1.heap.size ≤ k) (q6 : Frame (fun k => OD k ∨ OS k ∨ k = jb) w1 w2) :
  ∃ lv' y OL', TopAt W w2 db jb lb mb (i + 1) sv (appS segs s e).1 safe (appS segs s e).2 l' ls OD' OS' OP OL' OE vs' pv lv' sf (last + 1) y nt := by
 obtain ⟨lv', y, OL', hl, hol, hf⟩ := hL
 have hn := h.n
 obtain ⟨hd1, hd2⟩ := h.inv.append hok (by rw [hlsn, h.inv.nx, h.lst]; omega) (by omega)
 have s1 := hf.low.size
 have s2 := q6.low.size
 have hlb := blk_lt hl.blk
 have hmb := hl.mlt
 have hlbw := blk_lt h.led.blk
 have hmbw := h.led.mlt
 have hp : ∀ k, OP k → k < w.heap.size := h.led.b1
 have hjlt := h.jlt
 -- a block of the journal's is not the ledger's
 have xx : ∀ k, (OD k ∨ OS k ∨ k = jb) → ¬ OP k ∧ ¬ OL' k ∧ k ≠ lb ∧ k ≠ mb ∧ ¬ OE k := fun k hk => by
  obtain ⟨a, b, c, d, e'⟩ := h.x1 k hk
  have hkl : k < w.heap.size := by
   rcases hk with hk | hk | hk
   ·exact (h.ap.d k hk).1
   ·exact h.ap.s k hk
   ·omega
  exact ⟨a, fun ho => (hol k ho).elim b (fun h => by omega), c, d, e'⟩
 have yy : ∀ k, (OP k ∨ OL' k ∨ k = lb ∨ k = mb) → ¬ (OD k ∨ OS k ∨ k = jb) := fun k hk hj => by
  obtain ⟨a, b, c, d, _⟩ := xx k hj
  rcases hk with hk | hk | hk | hk
  ·exact a hk
  ·exact b hk
  ·exact c hk
  ·exact d hk
 have hlow := h.low.size
 have zz : ∀ k, (OD' k ∨ OS' k ∨ k = jb) → (OD k ∨ OS k ∨ k = jb) ∨ w1.heap.size ≤ k := fun k hk => by
  rcases hk with hk | hk | hk
  ·exact (q5 k (.inl hk)).elim (fun h => .inl (.inl h)) (fun h => h.elim (fun h => .inl (.inr (.inl h))) .inr)
  ·exact (q5 k (.inr hk)).elim (fun h => .inl (.inl h)) (fun h => h.elim (fun h => .inl (.inr (.inl h))) .inr)
  ·exact .inl (.inr (.inr hk))
 refine ⟨lv', y, OL', ⟨q1, q2, q3, q4, hd1, hl.keep (fun k hk hlt => q6.block k hlt (yy k hk)) s2, ?_, h.fs, ?_, ?_, ?_, ?_, fun k hk => ?_, fun k hk => ?_, fun k hk => ?_, fun k hk => by have := h.oe k hk; omega, ?_⟩⟩
 ·rw [hd2]; exact .snoc h.f hst hok (by rw [hlsn, h.lst])
 ·have := h.row.keep (W' := w1) (fun k hk hlt => hf.block k hlt (fun e => h.x2 k (.inr e) hk)) s1
  refine this.keep (fun k hk hlt => q6.block k hlt (fun e => (xx k e).2.2.2.2 hk)) s2
 ·rw [hd2, List.length_append, h.lst]; rfl
 ·rw [hd2, List.length_append]; simp; omega
 ·exact Nat.le_succ_of_le h.ns
 ·rcases zz k hk with h' | h'
  ·exact xx k h'
  ·exact ⟨fun e => by have := hp k e; omega, fun e => by have := hl.b2 k e; omega, by omega, by omega, fun e => by have := h.oe k e; omega⟩
 ·intro he
  rcases hk with hk | hk | hk | hk
  ·exact h.x2 k (.inl hk) he
  ·exact (hol k hk).elim (fun h' => h.x2 k (.inr (.inl h')) he) (fun h' => by have := h.oe k he; omega)
  ·exact h.x2 k (.inr (.inr (.inl hk))) he
  ·exact h.x2 k (.inr (.inr (.inr hk))) he
 ·rcases hk with hk | hk | hk | hk | hk | hk | hk | hk
  ·exact (q5 k (.inl hk)).elim (fun h' => h.lo k (.inl h')) (fun h' => h'.elim (fun h' => h.lo k (.inr (.inl h'))) (fun h' => by omega))
  ·exact (q5 k (.inr hk)).elim (fun h' => h.lo k (.inl h')) (fun h' => h'.elim (fun h' => h.lo k (.inr (.inl h'))) (fun h' => by omega))
  ·exact h.lo k (.inr (.inr (.inl hk)))
  ·exact h.lo k (.inr (.inr (.inr (.inl hk))))
  ·exact (hol k hk).elim (fun h' => h.lo k (.inr (.inr (.inr (.inr (.inl h')))))) (fun h' => by omega)
  ·exact h.lo k (.inr (.inr (.inr (.inr (.inr (.inl hk))))))
  ·exact h.lo k (.inr (.inr (.inr (.inr (.inr (.inr (.inl hk)))))))
  ·exact h.lo k (.inr (.inr (.inr (.inr (.inr (.inr (.inr hk)))))))
 ·have b1 : Below W.heap.size w w1 := ⟨hf.low.os, hf.low.tape, hf.low.output, hf.low.size, fun k hk => hf.block k (by omega) (fun e => by
   have := h.lo k (e.elim (fun e => .inr (.inr (.inr (.inr (.inl e))))) (fun e => e.elim (fun e => .inr (.inr (.inr (.inr (.inr (.inl e)))))) (fun e => .inr (.inr (.inr (.inr (.inr (.inr (.inl e)))))))))
   omega)⟩
  have b2 : Below W.heap.size w1 w2 := ⟨q6.low.os, q6.low.tape, q6.low.output, q6.low.size, fun k hk => q6.block k (by omega) (fun e => by
   have := h.lo k (e.elim .inl (fun e => e.elim (fun e => .inr (.inl e)) (fun e => .inr (.inr (.inl e)))))
   omega)⟩
  exact (h.low.trans b1).trans b2
/-- An order whose key is there: the ledger's count alone. -/
theorem TopAt.dup (h : TopAt W w db jb lb mb i sv segs safe s l ls OD OS OP OL OE vs pv lv sf last tk nt) {w1 : World} {y : Int} (hl : LedAt w1 OP OL lb mb pv lv planL l last tk y) (hf : Frame (fun k => k = lb) w w1) : TopAt W w1 db jb lb mb (i + 1) sv segs safe s l ls OD OS OP OL OE vs pv lv sf last tk y := by
 obtain ⟨a, b, c, d, e⟩ := h.jd (hf.mono (fun k hk => .inr (.inl hk)))
 have hw := h.low.size
 refine ⟨a, b, c, d, h.inv, hl, h.f, h.fs, e, h.lst, Nat.le_succ_of_le h.n, Nat.le_succ_of_le h.ns, h.x1, h.x2, h.lo, fun k hk => Nat.lt_of_lt_of_le (h.oe k hk) hf.low.size, h.low.trans ⟨hf.low.os, hf.low.tape, hf.low.output, hf.low.size, fun k hk => hf.block k (by omega) (fun e => ?_)⟩⟩
 have := h.lo k (.inr (.inr (.inr (.inr (.inr (.inl e))))))
 omega
/-- All that waits is flushed, and read. -/
theorem TopAt.flush (h : TopAt W w db jb lb mb i sv segs safe s l ls OD OS OP OL OE vs pv lv sf last tk nt) {w1 w2 : World} {OD' : Nat → Prop} {sf' : Int} {sv' : Value} (q1 : JBlk w1 jb db vs sf') (q2 : Disk w1 OD' db 512 (flS s)) (q3 : JV w1 OS vs segs) (q4 : Apart w1 OD' OS jb) (q5 : ∀ k, OD' k → OD k ∨ w.heap.size ≤ k)
  (q6 : Frame (fun k => OD k ∨ OS k ∨ k = jb) w w1) (q7 : EntRow w2 (fun k => w1.heap.size ≤ k ∧ k < w2.heap.size) sv' (allE segs)) (q8 : Below w1.heap.size w1 w2) : TopAt W w2 db jb lb mb i sv' segs segs (flS s) l l OD' OS OP OL (fun k => w1.heap.size ≤ k ∧ k < w2.heap.size) vs pv lv sf' last tk nt := by
 have hj := blk_lt q1
 have s1 := q6.low.size
 have s2 := q8.size
 have hw := h.low.size
 have hlbw := blk_lt h.led.blk
 have hmbw := h.led.mlt
 have hjlt := h.jlt
 have zz : ∀ k, (OD' k ∨ OS k ∨ k = jb) → (OD k ∨ OS k ∨ k = jb) ∨ (w.heap.size ≤ k ∧ OD' k) := fun k hk => by
  rcases hk with hk | hk | hk
  ·exact (q5 k hk).elim (fun h => .inl (.inl h)) (fun h => .inr ⟨h, hk⟩)
  ·exact .inl (.inr (.inl hk))
  ·exact .inl (.inr (.inr hk))
 have hled : LedAt w1 OP OL lb mb pv lv planL l last tk nt := h.led.keep (fun k hk hlt => q6.block k hlt (fun e => by
  obtain ⟨a, b, c, d, _⟩ := h.x1 k e
  rcases hk with hk | hk | hk | hk
  ·exact a hk
  ·exact b hk
  ·exact c hk
  ·exact d hk)) s1
 refine ⟨(q8.block jb hj).trans q1, q2.below q8 (Nat.le_refl _), q3.keep (fun k _ hk => q8.block k hk) q8.size, q4.grow q8.size, h.inv.flush, hled.keep (fun k _ hk => q8.block k hk) q8.size, h.f, h.f, q7, h.lst, h.n, h.n, fun k hk => ?_, fun k hk => ?_, fun k hk => ?_, fun k hk => hk.2, ?_⟩
 ·have hlt : k < w1.heap.size := by
   rcases hk with hk | hk | hk
   ·exact (q4.d k hk).1
   ·exact q4.s k hk
   ·omega
  rcases zz k hk with h' | ⟨h', ho⟩
  ·obtain ⟨a, b, c, d, _⟩ := h.x1 k h'
   exact ⟨a, b, c, d, fun e => by omega⟩
  ·exact ⟨fun e => by have := h.led.b1 k e; omega, fun e => by have := h.led.b2 k e; omega, by omega, by omega, fun e => by omega⟩
 ·intro he
  have : k < w.heap.size := by
   rcases hk with hk | hk | hk | hk
   ·exact h.led.b1 k hk
   ·exact h.led.b2 k hk
   ·omega
   ·omega
  omega
 ·rcases hk with hk | hk | hk | hk | hk | hk | hk | hk
  ·exact (q5 k hk).elim (fun h' => h.lo k (.inl h')) (fun h' => by omega)
  ·exact h.lo k (.inr (.inl hk))
  ·exact h.lo k (.inr (.inr (.inl hk)))
  ·exact h.lo k (.inr (.inr (.inr (.inl hk))))
  ·exact h.lo k (.inr (.inr (.inr (.inr (.inl hk)))))
  ·exact h.lo k (.inr (.inr (.inr (.inr (.inr (.inl hk))))))
  ·exact h.lo k (.inr (.inr (.inr (.inr (.inr (.inr (.inl hk)))))))
  ·omega
 ·have b1 : Below W.heap.size w w1 := ⟨q6.low.os, q6.low.tape, q6.low.output, q6.low.size, fun k hk => q6.block k (by omega) (fun e => by
   have := h.lo k (e.elim .inl (fun e => e.elim (fun e => .inr (.inl e)) (fun e => .inr (.inr (.inl e)))))
   omega)⟩
  exact (h.low.trans b1).trans (q8.mono (by omega))
end
end Go.Proofs.YthfjhgdiakciaaaGreat.Bl
/- The document's answer for plans: may a step be (Right), may a plan be (Check). Condition: the steps are some that the law's plans have. -/
namespace Go.Proofs.YthfjhgdiakciaaaGreat.Bl
open Go.RowKit
set_option linter.unusedVariables false
set_option linter.unusedSimpArgs false
theorem rname_1 {W : World} {A : Option Addr} {x : List Int} (hb : Bytes W A x) (h : NameOk x) (c : Nat) : Calls Tryz.prog 124 #[.slice A x.length c] W fun e W' => e = .returned (.bool true) ∧ W = W' := by
 obtain ⟨h1, h2, h3⟩ := h
 obtain ⟨q, o, rfl, hq, hr⟩ := hb.2 (by intro h; rw [h] at h1; simp at h1)
 have HR : As (∀ i (hi : i < x.length), W.cell? ⟨q, o + i, none⟩ = some (.int .u8 x[i]) ∧ 97 ≤ x[i] ∧ x[i] ≤ 122) := ⟨fun i hi => ⟨hr i _ (by unfold bv; rw [List.getElem?_map, List.getElem?_eq_getElem hi]; rfl), h3 _ (List.getElem_mem hi)⟩⟩
 have hl1 : decide ((1 : Int) ≤ (x.length : Int)) = true := by simp; omega
 have hl2 : decide ((x.length : Int) ≤ 32) = true := by simp; omega
 clear hb hr h3
 go_enter Tryz.func124, Tryz.ntmps124
 go_wp2_with fail
 go_loopg [3] x.length (fun gk v3 w' => ∃ i : Nat, v3 = .int .i64 i ∧ As (gk = x.length - i) ∧ As (i ≤ x.length) ∧ w' = W)
 case atStart => exact ⟨0, rfl, ⟨rfl⟩, ⟨Nat.zero_le _⟩, rfl⟩
 case round =>
  obtain ⟨i, rfl, HK, HI, rfl⟩ := hrel
  by_cases hlt : i < x.length
  ·obtain ⟨c0, d1, d2⟩ := HR.out i hlt
   generalize x[i] = y at *
   have e1 : decide ((97 : Int) ≤ y) = true := by simp; omega
   have e2 : decide (y ≤ (122 : Int)) = true := by simp; omega
   have e3 : decide ((48 : Int) ≤ y) = true := by simp; omega
   have e4 : decide (y ≤ (57 : Int)) = false := by simp; omega
   go_wp2_with fail
   go_roundg (x.length - (i + 1))
   case measure => have := HK.out; omega
   case rel => exact ⟨i + 1, by go_num, ⟨rfl⟩, ⟨by omega⟩, rfl⟩
  ·have hi : i = x.length := by have := HI.out; omega
   subst hi
   go_wp2_with fail
   go_ret
   exact ⟨rfl, rfl⟩
theorem rname_0 {W : World} {A : Option Addr} (c : Nat) : Calls Tryz.prog 124 #[.slice A 0 c] W fun e W' => e = .returned (.bool false) ∧ W = W' := by
 go_enter Tryz.func124, Tryz.ntmps124
 go_wp2_with fail
 go_loopg [3] 0 (fun gk v3 w' => v3 = .int .i64 0 ∧ w' = W)
 case atStart => exact ⟨rfl, rfl⟩
 case round =>
  obtain ⟨rfl, rfl⟩ := hrel
  go_wp2_with fail
  go_ret
  exact ⟨rfl, rfl⟩
set_option maxHeartbeats 2000000 in
set_option maxRecDepth 100000 in
/-- May a step be? -/
theorem rright_a {W : World} {own : Nat → Prop} {s : Stp} {c : List Value} (h : StpAt W own s c) (hs : StpOk s) (W' : World) (hk : ∀ k, own k → k < W.heap.size → W'.heap[k]? = W.heap[k]?) (hsz : W.heap.size ≤ W'.heap.size) :
  Calls Tryz.prog 100 #[.agg c.toArray] W' fun e W1 => e = .returned (.bool true) ∧ Below W'.heap.size W' W1 := by
 have h := h.keep hk hsz
 clear hk hsz
 obtain ⟨a, k, rfl, hb, hc, _⟩ := h
 obtain ⟨what, n, name, back⟩ := s
 have hok := hs.kind
 simp only at hok hb hc
 have HB : As (∀ w, Below W'.heap.size W' w → Bytes w a name) := ⟨fun w hw => hb.below hw (Nat.le_refl _)⟩
 clear hs hb h
 unfold stC
 simp only
 rcases hok with ⟨rfl | rfl, h1, h2, h3⟩ | ⟨rfl | rfl, rfl, rfl⟩ | ⟨rfl, h1, h2, rfl⟩ | ⟨rfl, rfl, h3⟩
 ·have e1 : decide ((1 : Int) ≤ n) = true := by simp; omega
  have e2 : decide (n ≤ (1000000 : Int)) = true := by simp; omega
  have HN : As (∀ w, Below W'.heap.size W' w → Calls Tryz.prog 124 #[.slice a name.length k] w fun e W' => e = .returned (.bool true) ∧ w = W') := ⟨fun w hw => rname_1 (HB.out w hw) h3 k⟩
  clear h3
  go_enter Tryz.func100, Tryz.ntmps100
  go_wp2_with fail
  refine (HN.out _ (((Below.refl _ W').alloc (Nat.le_refl _) _).alloc (by simp) _)).mono ?_
  rintro e w1 ⟨rfl, rfl⟩
  go_wp2_with fail
  go_ret
  exact ⟨rfl, ((Below.refl _ W').alloc (Nat.le_refl _) _).alloc (by simp) _⟩
 ·have e1 : decide ((1 : Int) ≤ n) = true := by simp; omega
  have e2 : decide (n ≤ (1000000 : Int)) = true := by simp; omega
  have HN : As (∀ w, Below W'.heap.size W' w → Calls Tryz.prog 124 #[.slice a name.length k] w fun e W' => e = .returned (.bool true) ∧ w = W') := ⟨fun w hw => rname_1 (HB.out w hw) h3 k⟩
  clear h3
  go_enter Tryz.func100, Tryz.ntmps100
  go_wp2_with fail
  refine (HN.out _ (((Below.refl _ W').alloc (Nat.le_refl _) _).alloc (by simp) _)).mono ?_
  rintro e w1 ⟨rfl, rfl⟩
  go_wp2_with fail
  go_ret
  exact ⟨rfl, ((Below.refl _ W').alloc (Nat.le_refl _) _).alloc (by simp) _⟩
 ·have HN : As (∀ w, Below W'.heap.size W' w → Calls Tryz.prog 124 #[.slice a 0 k] w fun e W' => e = .returned (.bool false) ∧ w = W') := ⟨fun w hw => rname_0 k⟩
  go_enter Tryz.func100, Tryz.ntmps100
  go_wp2_with fail
  refine (HN.out _ (((Below.refl _ W').alloc (Nat.le_refl _) _).alloc (by simp) _)).mono ?_
  rintro e w1 ⟨rfl, rfl⟩
  go_wp2_with fail
  go_ret
  exact ⟨rfl, ((Below.refl _ W').alloc (Nat.le_refl _) _).alloc (by simp) _⟩
 ·have HN : As (∀ w, Below W'.heap.size W' w → Calls Tryz.prog 124 #[.slice a 0 k] w fun e W' => e = .returned (.bool false) ∧ w = W') := ⟨fun w hw => rname_0 k⟩
  go_enter Tryz.func100, Tryz.ntmps100
  go_wp2_with fail
  refine (HN.out _ (((Below.refl _ W').alloc (Nat.le_refl _) _).alloc (by simp) _)).mono ?_
  rintro e w1 ⟨rfl, rfl⟩
  go_wp2_with fail
  go_ret
  exact ⟨rfl, ((Below.refl _ W').alloc (Nat.le_refl _) _).alloc (by simp) _⟩
 ·have e1 : decide ((1 : Int) ≤ n) = true := by simp; omega
  have e2 : decide (n ≤ (1000000 : Int)) = true := by simp; omega
  have HN : As (∀ w, Below W'.heap.size W' w → Calls Tryz.prog 124 #[.slice a 0 k] w fun e W' => e = .returned (.bool false) ∧ w = W') := ⟨fun w hw => rname_0 k⟩
  go_enter Tryz.func100, Tryz.ntmps100
  go_wp2_with fail
  refine (HN.out _ (((Below.refl _ W').alloc (Nat.le_refl _) _).alloc (by simp) _)).mono ?_
  rintro e w1 ⟨rfl, rfl⟩
  go_wp2_with fail
  go_ret
  exact ⟨rfl, ((Below.refl _ W').alloc (Nat.le_refl _) _).alloc (by simp) _⟩
 ·have HN : As (∀ w, Below W'.heap.size W' w → Calls Tryz.prog 124 #[.slice a name.length k] w fun e W' => e = .returned (.bool true) ∧ w = W') := ⟨fun w hw => rname_1 (HB.out w hw) h3 k⟩
  clear h3
  go_enter Tryz.func100, Tryz.ntmps100
  go_wp2_with fail
  refine (HN.out _ (((Below.refl _ W').alloc (Nat.le_refl _) _).alloc (by simp) _)).mono ?_
  rintro e w1 ⟨rfl, rfl⟩
  go_wp2_with fail
  go_ret
  exact ⟨rfl, ((Below.refl _ W').alloc (Nat.le_refl _) _).alloc (by simp) _⟩
set_option maxHeartbeats 2000000 in
set_option maxRecDepth 100000 in
/-- May a plan be? -/
theorem rpcheck_a {W : World} {own : Nat → Prop} {v : Value} {p : List Stp} (h : PlanAt W own v p) (hp : PlanOk p) :
  Calls Tryz.prog 56 #[v] W fun e W1 => e = .returned (.int .i64 0) ∧ Below W.heap.size W W1 := by
 obtain ⟨hl1, hl2, hok⟩ := hp
 obtain ⟨g, c, _, rfl, hgl, _⟩ := h.at (List.getElem?_eq_getElem (show 0 < p.length by omega))
 have H := As.mk h
 have HOK := As.mk hok
 have z0 : ((p.length : Int) == 0) = false := beq_eq_false_iff_ne.2 (by omega)
 have z1 : decide ((16 : Int) < (p.length : Int)) = false := by simp; omega
 clear h hok
 go_enter Tryz.func56, Tryz.ntmps56
 go_wp2_with fail
 go_loopg [3] p.length (fun gk v3 w' => ∃ i : Nat, v3 = .int .i64 i ∧ As (gk = p.length - i) ∧ As (i ≤ p.length) ∧ As (Below W.heap.size W w'))
 case atStart => exact ⟨0, rfl, ⟨rfl⟩, ⟨Nat.zero_le _⟩, ⟨Below.refl _ _⟩⟩
 case round =>
  obtain ⟨i, rfl, HK, HI, HB⟩ := hrel
  have hs := HB.out.size
  by_cases hlt : i < p.length
  ·obtain ⟨g', c', x, hv, _, _, hx, hr⟩ := H.out.at (List.getElem?_eq_getElem hlt)
   injection hv with e1 _ e2
   injection e1 with e1
   injection e1 with e1
   subst e1 e2
   have hr1 := As.mk (range_heap hr (HB.out.block g hgl))
   have HR := As.mk (rright_a hx (HOK.out _ (List.getElem_mem hlt)))
   obtain ⟨a, k, rfl, _⟩ := hx
   clear hr
   unfold stC at *
   generalize p[i] = s at *
   generalize s.name.length = nl at *
   go_wp2_with (refine wpList_load_mid rfl 112 (.tmp 20) rfl g (i * 6) rfl _ _ hr1.out Tryz.underlying112 rfl size112 ?_)
   refine (HR.out _ (fun k hk hlk => ?_) ?_).mono ?_
   ·exact HB.out.block k hlk
   ·exact hs
   rintro e w1 ⟨rfl, q1⟩
   have HB1 : As (Below W.heap.size W w1) := ⟨HB.out.trans (q1.mono hs)⟩
   clear q1
   go_wp2_with fail
   go_roundg (p.length - (i + 1))
   case measure => have := HK.out; omega
   case rel => exact ⟨i + 1, by go_num, ⟨rfl⟩, ⟨by omega⟩, HB1⟩
  ·have hi : i = p.length := by have := HI.out; omega
   subst hi
   go_wp2_with fail
   go_ret
   exact ⟨rfl, HB.out⟩
end Go.Proofs.YthfjhgdiakciaaaGreat.Bl
/- A ledger of the reference without orders (drayageref20.New). Condition: the plans lie in memory as it is told. -/
namespace Go.Proofs.YthfjhgdiakciaaaGreat.Bl
open Go.RowKit Go.Maps
set_option linter.unusedVariables false
set_option linter.unusedSimpArgs false
/-- A new ledger of the reference. -/
def RNewLed (W W' : World) (e : Ending) (v : Value) : Prop :=
 ∃ lb, e = .returned (.tuple #[.pointer (some ⟨lb, 0, none⟩), .int .i64 0]) ∧ W.heap.size ≤ lb ∧ W'.heap[lb]? = some (.cells #[v, .slice none 0 0, .slice none 0 0, .int .u64 0, .int .u32 0, .int .i64 1, .int .i64 0, .int .i64 0] 64 (0, 0)) ∧ Below W.heap.size W W'
set_option maxHeartbeats 2000000 in
set_option maxRecDepth 100000 in
theorem rnew_a {W : World} {own : Nat → Prop} {v : Value} {ps : List (List Stp)} (h : PlansRow W own v ps) (hps : PsOk ps) (h0 : 0 < ps.length) : Calls Tryz.prog 18 #[v] W fun e W' => RNewLed W W' e v := by
 obtain ⟨vs, h1, h2, h3, h4⟩ := h
 obtain ⟨g, c, rfl, _, hgl⟩ := h2.form (by omega)
 have hl8 := hps.len
 have HV := As.mk h2
 have H4 : As (∀ w, Below W.heap.size W w → ∀ (i : Nat) (p : List Stp), ps[i]? = some p → ∃ sv, vs[i]? = some sv ∧ PlanAt w (fun k => own k ∧ ¬ (Value.slice (some ⟨g, 0, none⟩) ps.length c).ownBlock = some k) sv p) := ⟨fun w hw i p hp => by
  obtain ⟨sv, a, b⟩ := h4 i p hp
  exact ⟨sv, a, b.keep (fun k _ hk => hw.block k hk) hw.size⟩⟩
 have HPS := As.mk hps
 have hlt0 : ((ps.length : Int) == 0) = false := beq_eq_false_iff_ne.2 (by omega)
 have hlt8 : decide ((8 : Int) < (ps.length : Int)) = false := by simp; omega
 clear h1 h2 h3 h4 hps
 go_enter Tryz.func18, Tryz.ntmps18
 go_wp2_with fail
 go_loopg [4] ps.length (fun gk v4 w' => ∃ i : Nat, v4 = .int .i64 i ∧ As (gk = ps.length - i) ∧ As (i ≤ ps.length) ∧ As (Below W.heap.size W w'))
 case atStart => exact ⟨0, rfl, ⟨rfl⟩, ⟨Nat.zero_le _⟩, ⟨Below.refl _ _⟩⟩
 case round =>
  obtain ⟨i, rfl, HK, HI, HB⟩ := hrel
  have hs := HB.out.size
  by_cases hlt : i < ps.length
  ·obtain ⟨sv, hsv, _⟩ := H4.out W (Below.refl _ _) i ps[i] (List.getElem?_eq_getElem hlt)
   have c1 : wr.cell? ⟨g, i, none⟩ = some sv := by
    rw [World.cell?_of_block (w := W) (a := ⟨g, i, none⟩) (HB.out.block g hgl), HV.out.cellAt i (by omega)]
    exact hsv
   have HP : As (∀ w, Below W.heap.size W w → PlanAt w (fun k => own k ∧ ¬ (Value.slice (some ⟨g, 0, none⟩) ps.length c).ownBlock = some k) sv ps[i]) := ⟨fun w hw => by
    obtain ⟨sv', a, b⟩ := H4.out w hw i ps[i] (List.getElem?_eq_getElem hlt)
    rw [hsv] at a
    rw [Option.some.inj a]
    exact b⟩
   have HPO := As.mk (HPS.out.ok ps[i] (List.getElem_mem hlt))
   clear hsv
   go_wp2_with fail
   refine (rpcheck_a (HP.out wr HB.out) HPO.out).mono ?_
   rintro e w1 ⟨rfl, q1⟩
   have B1 := As.mk (HB.out.trans (q1.mono hs))
   clear q1 c1
   go_wp2_with fail
   go_roundg (ps.length - (i + 1))
   case measure => have := HK.out; omega
   case rel => exact ⟨i + 1, by go_num, ⟨rfl⟩, ⟨by omega⟩, B1⟩
  ·have hi : i = ps.length := by have := HI.out; omega
   subst hi
   have HB' : As (∀ o, Below W.heap.size W (wr.alloc o)) := ⟨fun o => HB.out.alloc hs o⟩
   have HN : As (∀ o, (wr.alloc o).heap[wr.heap.size]? = some o) := ⟨fun o => blk_new wr o⟩
   go_wp2_with fail
   go_ret2
   exact ⟨wr.heap.size, rfl, hs, HN.out _, HB'.out _⟩
end Go.Proofs.YthfjhgdiakciaaaGreat.Bl
