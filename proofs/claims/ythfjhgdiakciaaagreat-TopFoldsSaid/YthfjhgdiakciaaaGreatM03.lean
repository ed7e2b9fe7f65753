/- The power goes, and comes (Crash). Condition: the receiver is a disk in memory, or nil. -/
import Derived.Laws.AppendOwnNone
import Derived.Test.YthfjhgdiakciaaaGreatM02
namespace Go.Proofs.YthfjhgdiakciaaaGreat.Bl
open Go.RowKit
set_option linter.unusedVariables false
set_option linter.unusedSimpArgs false
theorem write_a {W : World} {own : Nat → Prop} {b n : Nat} {s : St} {A : Option Addr} {x : List Int} (h : Disk W own b n s) (k : Int) (c : Nat) (hx : Bytes W A x) (hw : s.wait.length < 1000000) :
  Calls Tryz.prog 121 #[.pointer (some ⟨b, 0, none⟩), .int .i64 k, .slice A x.length c] W fun e W' => e = .returned (.int .i64 (writeF s n k x).1) ∧ Disk W' (And' own W) b n (writeF s n k x).2 ∧ Frame own W W' := by
 unfold writeF
 by_cases hd : s.dark = true
 ·rw [if_pos hd]
  refine (write_dark h k _ hd).mono ?_
  rintro e w1 ⟨rfl, rfl⟩
  exact ⟨rfl, h.mono (fun _ h _ => .inl h), Frame.refl _ _⟩
 ·rw [if_neg hd]
  have hd : s.dark = false := by simpa using hd
  by_cases hb : k < 0 ∨ (n : Int) ≤ k ∨ x.length ≠ 64
  ·rw [if_pos hb]
   refine (write_block h k c x.length hd hb).mono ?_
   rintro e w1 ⟨rfl, rfl⟩
   exact ⟨rfl, h.mono (fun _ h _ => .inl h), Frame.refl _ _⟩
  ·rw [if_neg hb]
   have h1 : ¬ k < 0 := by omega
   have h2 : ¬ (n : Int) ≤ k := by omega
   have h64 : x.length = 64 := by omega
   by_cases hl : s.limit ≤ k
   ·rw [if_pos hl, h64]
    refine (write_full h k c hd h1 h2 hl).mono ?_
    rintro e w1 ⟨rfl, rfl⟩
    exact ⟨rfl, h.mono (fun _ h _ => .inl h), Frame.refl _ _⟩
   ·rw [if_neg hl, h64]
    by_cases ha : (actF s).1 = false
    ·rw [if_pos ha]
     refine (write_gone h k c hd h1 h2 hl ha).mono ?_
     rintro e w1 ⟨rfl, q1, q2⟩
     exact ⟨rfl, q1.mono (fun _ h _ => .inl h), q2⟩
    ·rw [if_neg ha]
     obtain ⟨k, rfl⟩ : ∃ j : Nat, k = j := ⟨k.toNat, by omega⟩
     refine (write_good h k c hx h64 hd (by omega) hl (by simpa using ha) hw).mono ?_
     rintro e w1 ⟨rfl, q1, q2⟩
     exact ⟨rfl, q1, q2⟩
/-- The blocks that were flushed, behind a crash: the first writes that wait are kept, of the next one a first part. -/
def crashL (cut : Nat) : List Wr → Int → List (List Int) → List (List Int)
 | [], _, l => l
 | x :: r, k, l => if k ≤ 0 then l.set x.pos (over (l.getD x.pos []) (x.b.take cut)) else crashL cut r (k - 1) (l.set x.pos x.b)
def cutN (cut : Int) : Nat := if cut < 0 then 0 else if 64 < cut then 64 else cut.toNat
def crashF (s : St) (keep cut : Int) : St := ⟨crashL (cutN cut) s.wait keep s.sure, crashL (cutN cut) s.wait keep s.sure, [], s.limit, -1, false⟩
theorem over_ok {l x : List Int} (hl : ByteOk l) (hx : ByteOk x) : ByteOk (over l x) := fun y hy => by
 rcases List.mem_append.1 hy with hy | hy
 ·exact hx y hy
 ·exact hl y (List.mem_of_mem_drop hy)
theorem crashL_ok (n cut : Nat) (hc : cut ≤ 64) : ∀ (r : List Wr) (k : Int) (l : List (List Int)), (∀ x ∈ r, x.pos < n ∧ x.b.length = 64 ∧ ByteOk x.b) → l.length = n → All64 l → Allb l → (crashL cut r k l).length = n ∧ All64 (crashL cut r k l) ∧ Allb (crashL cut r k l)
 | [], _, l, _, h1, h2, h3 => ⟨h1, h2, h3⟩
 | x :: r, k, l, h, h1, h2, h3 => by
  obtain ⟨p1, p2, p3⟩ := h x (List.mem_cons_self ..)
  have hp : x.pos < l.length := by omega
  have hg : l.getD x.pos [] = l[x.pos] := by rw [List.getD, List.getElem?_eq_getElem hp]; rfl
  unfold crashL
  split
  ·rw [hg]
   have e1 : (x.b.take cut).length ≤ 64 := by rw [List.length_take]; omega
   have e2 := h2 _ (List.getElem_mem hp)
   refine ⟨by rw [List.length_set]; exact h1, h2.set _ (by rw [over_len _ _ (by omega), e2]), fun y hy => ?_⟩
   rcases List.mem_or_eq_of_mem_set hy with hy | rfl
   ·exact h3 y hy
   ·exact over_ok (h3 _ (List.getElem_mem hp)) (fun z hz => p3 z (List.mem_of_mem_take hz))
  ·refine crashL_ok n cut hc r (k - 1) _ (fun y hy => h y (List.mem_cons_of_mem _ hy)) (by rw [List.length_set]; exact h1) (h2.set _ p2) (fun y hy => ?_)
   rcases List.mem_or_eq_of_mem_set hy with hy | rfl
   ·exact h3 y hy
   ·exact p3
theorem cutN_le (cut : Int) : cutN cut ≤ 64 := by unfold cutN; split; omega; split <;> omega
theorem crash_ok {s : St} {n : Nat} (h : s.Ok n) (keep cut : Int) : (crashF s keep cut).Ok n := by
 have := crashL_ok n (cutN cut) (cutN_le cut) s.wait keep s.sure h.b3 h.sure h.b2.1 h.b2.2
 exact ⟨h.n1, h.n2, this.1, this.1, this.2, this.2, (fun x hx => by cases hx), (by simp [crashF]), (by simp [crashF])⟩
theorem DiskAt.storeS {W : World} {own : Nat → Prop} {b n g1 c1 g2 c2 : Nat} {s : St} {v : Value} (h : DiskAt W own b n s g1 c1 g2 c2 v) (h64 : All64 s.sure) (hn : s.sure.length = n) (k : Nat) (hk : k < s.sure.length) (x : List Int) (hx : x.length ≤ 64) :
  DiskAt (W.setCells g2 (k * 64) (bv x)) own b n { s with sure := s.sure.set k (over s.sure[k] x) } g1 c1 g2 c2 v := by
 have hb : b ≠ g2 := fun e => own_ne h.sure h.blk (by decide) _ rfl e.symm
 refine ⟨by rw [setCells_far _ _ _ _ hb]; exact h.blk, own_keep h.now (fun g hg _ => setCells_far _ _ _ _ (by rw [← ob_eq hg]; exact h.ne)), ?_, own_keep h.wait (fun g hg hl => setCells_far _ _ _ _ (fun e => ?_)), h.ne, h.o0, h.o1, h.o2, h.o3⟩
 ·have := own_put (bv x) (k * 64) _ _ h.sure
  rw [flat_put h64 k hk x hx] at this
  exact this
 ·obtain ⟨cur, hc, _⟩ := own_block h.sure
  exact own_ne h.wait hc (by decide) g hg e
theorem wait_range {W : World} {own : Nat → Prop} {b n g1 c1 g2 c2 gw k : Nat} {s : St} (h : DiskAt W own b n s g1 c1 g2 c2 (.slice (some ⟨gw, 0, none⟩) s.wait.length k)) (h64 : ∀ x ∈ s.wait, x.b.length = 64) (i : Nat) (hi : i < s.wait.length) : W.rangeAt gw (i * 65) (wv s.wait[i]) :=
 own_range h.wait _ _ (fun j u hu => by
  have hl := wv_len _ (h64 _ (List.getElem_mem hi))
  have hj : j < 65 := by have := (List.getElem?_eq_some_iff.1 hu).1; rw [hl] at this; exact this
  rw [flatW_at h64 i j hj, List.getElem?_eq_getElem hi]
  exact hu)
theorem wp_copy_cells {P : Program} {o : Oper} {a : Act} {w : World} {K : Act → World → Prop} {Q : Exit → Act → World → Prop} (d s : Operand) (dT sT : TypeId)
  (ho : o.op = .call { callee := .builtin .copy, args := #[d, s], argTypes := #[dT, sT] }) (elem : TypeId) (hu : P.underlying dT = some (.slice elem)) (hsz : (P.info? elem).map (·.size) = some 1)
  (b off dLen dCap : Nat) (ad : Addr) (sLen sCap : Nat) (hd : a.eval d = .slice (some ⟨b, off, none⟩) dLen dCap) (hs : a.eval s = .slice (some ad) sLen sCap) (cs : List Value) (hn : cs.length = Nat.min sLen dLen)
  (hsrc : ∀ j v, cs[j]? = some v → w.cell? (ad.add j) = some v) (ht : w.there b off cs.length) (h1 : ∀ v ∈ cs, v.oneCell' = true) (h : K (a.put o.dst (goInt cs.length)) (w.setCells b off cs)) : o.wp P a w K Q := by
 have hrun := run_copy_cells (P := P) w dT sT o.type elem b off dLen dCap ad sLen sCap cs hu hsz hn hsrc (fun j hj => (ht j hj).1) (fun j hj => (ht j hj).2) h1
 unfold Oper.wp
 simp [execOp, ho, resolve, invoke, builtin, hd, hs, hrun, Result.andThen]
 exact h
theorem step_copy_cells {P : Program} {ops : Array Oper} {o : Oper} {a : Act} {w : World} {K : Act → World → Prop} {Q : Exit → Act → World → Prop} {E : Prop} (hgd : o.guard = none) (d s : Operand) (dT sT : TypeId)
  (ho : o.op = .call { callee := .builtin .copy, args := #[d, s], argTypes := #[dT, sT] }) (elem : TypeId) (hu : P.underlying dT = some (.slice elem)) (hsz : (P.info? elem).map (·.size) = some 1)
  (b off dLen dCap : Nat) (ad : Addr) (sLen sCap : Nat) (hd : a.eval d = .slice (some ⟨b, off, none⟩) dLen dCap) (hs : a.eval s = .slice (some ad) sLen sCap) (cs : List Value) (hn : cs.length = Nat.min sLen dLen)
  (hsrc : ∀ j v, cs[j]? = some v → w.cell? (ad.add j) = some v) (ht : w.there b off cs.length) (h1 : ∀ v ∈ cs, v.oneCell' = true) (h : K (a.put o.dst (goInt cs.length)) (w.setCells b off cs)) :
  if Region.wanted o (yielded ops a.tmps) = true then Oper.wp P o a w K Q else E := by
 have hw : Region.wanted o (yielded ops a.tmps) = true := by simp [Region.wanted, hgd]
 rw [if_pos hw]
 exact wp_copy_cells d s dT sT ho elem hu hsz b off dLen dCap ad sLen sCap hd hs cs hn hsrc ht h1 h
theorem src17 {w : World} {bw : Nat} {x : List Int} (h : w.rangeAt bw 1 (bv x)) (c : Nat) : ∀ j v, (bv (x.take c))[j]? = some v → w.cell? ((⟨bw, 1, none⟩ : Addr).add j) = some v := fun j v hv => by
 rw [Addr.add_mid]
 refine h j v ?_
 rw [bv_get, List.getElem?_take] at hv
 split at hv
 ·rw [bv_get]; exact hv
 ·cases hv
theorem th17 {w : World} {g o k : Nat} (h : w.there g o 64) (hk : k ≤ 64) : w.there g o k := fun j hj => h j (by omega)
theorem tk17 {x : List Int} (h : x.length = 64) (c : Nat) (hc : c ≤ 64) : (bv (x.take c)).length = Nat.min c 64 := by
 rw [bv_len, List.length_take, h]
theorem keep17 {w : World} {b bw g2 k : Nat} {x : List Int} {u u2 : Value} (h : w.cell? ⟨b, 1, none⟩ = some u ∧ w.cell? ⟨bw, 0, none⟩ = some u2 ∧ w.rangeAt bw 1 (bv x) ∧ w.there g2 (k * 64) 64) (h1 : b ≠ g2) (h2 : bw ≠ g2) {vs : List Value} :
  (w.setCells g2 (k * 64) vs).cell? ⟨b, 1, none⟩ = some u ∧ (w.setCells g2 (k * 64) vs).cell? ⟨bw, 0, none⟩ = some u2 ∧ (w.setCells g2 (k * 64) vs).rangeAt bw 1 (bv x) ∧ (w.setCells g2 (k * 64) vs).there g2 (k * 64) 64 :=
 ⟨by rw [World.cell?_setCells_out _ _ _ _ _ (fun e => absurd e h1)]; exact h.1, by rw [World.cell?_setCells_out _ _ _ _ _ (fun e => absurd e h2)]; exact h.2.1, World.rangeAt_setCells_apart h.2.2.1 _ _ _ (.inl h2), World.there_setCells h.2.2.2 _ _ _⟩
set_option maxHeartbeats 4000000 in
set_option maxRecDepth 100000 in
theorem crash_a {W : World} {own : Nat → Prop} {b n : Nat} {s : St} (h : Disk W own b n s) (keep cut : Int) (hw : s.wait.length < 1000000) (hkp : -9223372036854775808 ≤ keep) :
  Calls Tryz.prog 17 #[.pointer (some ⟨b, 0, none⟩), .int .i64 keep, .int .i64 cut] W fun e W' => e = .returned (.tuple #[]) ∧ Disk W' (And' own W) b n (crashF s keep cut) ∧ Frame own W W' := by
 have OKF := As.mk (crash_ok h.ok keep cut)
 obtain ⟨hok, g1, c1, g2, c2, v, h⟩ := h
 have OK := As.mk hok
 have hn : n ≤ 1024 := hok.n2
 obtain ⟨d0, d1, d2, d3, d4, d5⟩ := h.cells
 have hv : ∃ A k, v = .slice A s.wait.length k := by
  rcases h.wait.2 with ⟨hv, h0⟩ | ⟨g, cap, _, hv, _⟩
  ·rw [hv, h0]; exact ⟨_, _, rfl⟩
  ·exact ⟨_, _, hv⟩
 obtain ⟨A, kc, rfl⟩ := hv
 have H := As.mk h
 have hlen : s.wait.length ≤ 1000000 := by omega
 clear h hok
 go_enter Tryz.func17, Tryz.ntmps17
 generalize hcr : crashL (cutN cut) s.wait keep s.sure = F at *
 have HCR := As.mk hcr
 clear hcr
 go_upto_block 0 with fail
 go_cut [15] from 6 to 46 (fun v15 wc => As (DiskAt wc (And' own W) b n { s with sure := F } g1 c1 g2 c2 (.slice A s.wait.length kc)) ∧ As (Frame own W wc))
 case first =>
  clear d0 d1 d2 d3 d4 d5
  go_wp2_with fail
  go_loopg [15] s.wait.length (fun gk v15 w' => ∃ (i : Nat) (sure : List (List Int)), v15 = .int .i64 i ∧ As (gk = s.wait.length - i) ∧ As (i ≤ s.wait.length) ∧ As (crashL (cutN cut) (s.wait.drop i) (keep - i) sure = F) ∧ As (sure.length = n ∧ All64 sure) ∧ As (DiskAt w' (And' own W) b n { s with sure := sure } g1 c1 g2 c2 (.slice A s.wait.length kc)) ∧ As (Frame own W w'))
  case atStart => exact ⟨0, s.sure, rfl, ⟨rfl⟩, ⟨Nat.zero_le _⟩, ⟨by simpa using HCR.out⟩, ⟨OK.out.sure, OK.out.b2.1⟩, ⟨H.out.mono fun _ h => .inl h⟩, ⟨Frame.refl _ _⟩⟩
  case round =>
   obtain ⟨i, sure, rfl, HK, HI, HC, HS, HD, HF⟩ := hrel
   by_cases hi : i < s.wait.length
   ·obtain ⟨gw, cp, hA, _, _⟩ := HD.out.wait.form (show 0 < _ from by show 0 < s.wait.length; omega)
    have hA' : A = some ⟨gw, 0, none⟩ := by injection hA
    subst hA'
    clear hA
    have hr := As.mk (wait_range HD.out (fun x hx => (OK.out.b3 x hx).2.1) i hi)
    have hx3 := OK.out.b3 _ (List.getElem_mem hi)
    have hdr : s.wait.drop i = s.wait[i] :: s.wait.drop (i + 1) := List.drop_eq_getElem_cons hi
    have HDR := As.mk hdr
    generalize s.wait[i] = x at *
    have hx64 : x.b.length = 64 := hx3.2.1
    have hpos := hx3.1
    have hwl := wv_len x hx64
    have hz66 := zero66
    clear hx3 hdr
    go_upto_region 4 with (first | (refine wpList_load_mid rfl 151 (.tmp 18) rfl gw (i * 65) rfl (wv x) _ hr.out Tryz.underlying151 rfl (by rw [hwl]; exact size66) ?_) | (refine wpList_store_mid rfl 151 (.tmp 7) (.tmp 19) rfl wr.heap.size 0 (wv x).toArray rfl rfl (there_block (blk_new wr _) _ _ (by rw [List.size_toArray, List.size_toArray, zw_len, hwl]; exact Nat.le_refl _)) (by rw [List.size_toArray, hwl]; exact size66) (all_oneCell_toArray (wv_one _)) ?_))
    have hbw : As (((wr.alloc (.cells (wv ⟨0, zero64⟩).toArray 151 (0, 0))).setCells wr.heap.size 0 (wv x)).heap[wr.heap.size]? = some (.cells (wv x).toArray 151 (0, 0))) := ⟨by
     rw [setCells_same (wv x) wr.heap.size 0 _ _ (blk_new wr _), putAt_whole _ _ (by rw [zw_len, hwl])]⟩
    have hB2 : As (Below wr.heap.size wr ((wr.alloc (.cells (wv ⟨0, zero64⟩).toArray 151 (0, 0))).setCells wr.heap.size 0 (wv x))) := ⟨((Below.refl _ _).alloc (Nat.le_refl _) _).trans (setCells_below _ (Nat.le_refl _))⟩
    generalize (wr.alloc (.cells (wv ⟨0, zero64⟩).toArray 151 (0, 0))).setCells wr.heap.size 0 (wv x) = w2 at *
    have HD2 : As (DiskAt w2 (And' own W) b n { s with sure := sure } g1 c1 g2 c2 (.slice (some ⟨gw, 0, none⟩) s.wait.length kc)) := ⟨HD.out.keep (fun k _ hl => hB2.out.block k hl)⟩
    have HF2 : As (Frame own W w2) := ⟨HF.out.trans (Frame.of_below (own := own) hB2.out (Nat.le_refl _)) (fun _ _ h => h)⟩
    have hg2w : g2 < wr.heap.size := own_lt HD.out.sure g2 rfl
    generalize hbwe : wr.heap.size = bw at *
    have HBW := As.mk hbwe
    have hb2g : b ≠ g2 := fun e => own_ne HD2.out.sure HD2.out.blk (by decide) _ rfl e.symm
    have hwg : bw ≠ g2 := by omega
    clear hbwe hz66 hr HD HF hB2
    obtain ⟨d0, d1, d2, d3, d4, d5⟩ := HD2.out.cells
    have e0 : w2.cell? ⟨bw, 0, none⟩ = some (.int .i64 x.pos) := (blk_cell hbw.out 0).trans rfl
    have hrx : w2.rangeAt bw 1 (bv x.b) := fun j v hv => by
     rw [blk_cell hbw.out, List.getElem?_toArray, Nat.add_comm]
     exact hv
    have htx : w2.there g2 (x.pos * 64) 64 := own_there HD2.out.sure _ _ (by omega)
    have hp0 : (0 : Int) ≤ (x.pos : Int) := by omega
    have hpn : (x.pos : Int) < n := by omega
    by_cases hk : keep ≤ i
    ·go_upto_region 5 with fail
     by_cases hc0 : cut < 0
     ·have hcn : As (cutN cut = 0) := ⟨by unfold cutN; rw [if_pos hc0]⟩
      go_region_held3 (fun w' => w'.cell? ⟨b, 1, none⟩ = some (.slice (some ⟨g2, 0, none⟩) n c2) ∧ w'.cell? ⟨bw, 0, none⟩ = some (.int .i64 x.pos) ∧ w'.rangeAt bw 1 (bv x.b) ∧ w'.there g2 (x.pos * 64) 64) (first | go_keep_ranges | (go_split_ands; exact keep17 ⟨by assumption, by assumption, by assumption, by assumption⟩ hb2g hwg)) ((go_split_ands; refine step_copy_cells rfl (.tmp 30) (.tmp 35) 39 39 rfl 5 Tryz.underlying39 size5 g2 (x.pos * 64) 64 64 ⟨bw, 1, none⟩ 0 64 (by rfl) (by rfl) (bv (x.b.take 0)) (tk17 hx64 _ (by omega)) (src17 (by assumption) _) (th17 (by assumption) (by rw [tk17 hx64 _ (by omega)]; exact Nat.min_le_right _ _)) (bv_one _) ?_))
      have hps : x.pos < sure.length := by have := HS.out.1; omega
      have HD3 : As (DiskAt (w2.drew.setCells g2 (x.pos * 64) (bv (x.b.take 0))) (And' own W) b n { s with sure := F } g1 c1 g2 c2 (.slice (some ⟨gw, 0, none⟩) s.wait.length kc)) := ⟨by
       have hD : DiskAt w2.drew (And' own W) b n { s with sure := sure } g1 c1 g2 c2 (.slice (some ⟨gw, 0, none⟩) s.wait.length kc) := HD2.out.keep (fun _ _ _ => rfl)
       have h1 := hD.storeS HS.out.2 HS.out.1 x.pos hps (x.b.take 0) (by rw [List.length_take]; omega)
       have h2 := HC.out
       rw [HDR.out, crashL, if_pos (show keep - (i : Int) ≤ 0 by omega), hcn.out, List.getD, List.getElem?_eq_getElem hps] at h2
       rw [← h2]
       exact h1⟩
      have HF3 : As (Frame own W (w2.drew.setCells g2 (x.pos * 64) (bv (x.b.take 0)))) := ⟨HF2.out.drew.setCells HD2.out.o2 _ _⟩
      go_wp2_with fail
      go_meet
      case rel => exact ⟨HD3, HF3⟩
     ·by_cases hc1 : 64 < cut
      ·have hcn : As (cutN cut = 64) := ⟨by unfold cutN; rw [if_neg hc0, if_pos hc1]⟩
       go_region_held3 (fun w' => w'.cell? ⟨b, 1, none⟩ = some (.slice (some ⟨g2, 0, none⟩) n c2) ∧ w'.cell? ⟨bw, 0, none⟩ = some (.int .i64 x.pos) ∧ w'.rangeAt bw 1 (bv x.b) ∧ w'.there g2 (x.pos * 64) 64) (first | go_keep_ranges | (go_split_ands; exact keep17 ⟨by assumption, by assumption, by assumption, by assumption⟩ hb2g hwg)) ((go_split_ands; refine step_copy_cells rfl (.tmp 30) (.tmp 35) 39 39 rfl 5 Tryz.underlying39 size5 g2 (x.pos * 64) 64 64 ⟨bw, 1, none⟩ 64 64 (by rfl) (by rfl) (bv (x.b.take 64)) (tk17 hx64 _ (by omega)) (src17 (by assumption) _) (th17 (by assumption) (by rw [tk17 hx64 _ (by omega)]; exact Nat.min_le_right _ _)) (bv_one _) ?_))
       have hps : x.pos < sure.length := by have := HS.out.1; omega
       have HD3 : As (DiskAt (w2.drew.setCells g2 (x.pos * 64) (bv (x.b.take 64))) (And' own W) b n { s with sure := F } g1 c1 g2 c2 (.slice (some ⟨gw, 0, none⟩) s.wait.length kc)) := ⟨by
        have hD : DiskAt w2.drew (And' own W) b n { s with sure := sure } g1 c1 g2 c2 (.slice (some ⟨gw, 0, none⟩) s.wait.length kc) := HD2.out.keep (fun _ _ _ => rfl)
        have h1 := hD.storeS HS.out.2 HS.out.1 x.pos hps (x.b.take 64) (by rw [List.length_take]; omega)
        have h2 := HC.out
        rw [HDR.out, crashL, if_pos (show keep - (i : Int) ≤ 0 by omega), hcn.out, List.getD, List.getElem?_eq_getElem hps] at h2
        rw [← h2]
        exact h1⟩
       have HF3 : As (Frame own W (w2.drew.setCells g2 (x.pos * 64) (bv (x.b.take 64)))) := ⟨HF2.out.drew.setCells HD2.out.o2 _ _⟩
       go_wp2_with fail
       go_meet
       case rel => exact ⟨HD3, HF3⟩
      ·obtain ⟨cn, rfl⟩ : ∃ cn : Nat, cut = cn := ⟨cut.toNat, by omega⟩
       have hcn : As (cutN (cn : Int) = cn) := ⟨by unfold cutN; rw [if_neg hc0, if_neg hc1]; omega⟩
       have hc2 : (0 : Int) ≤ (cn : Int) := by omega
       have hc3 : (cn : Int) ≤ 64 := by omega
       go_region_held3 (fun w' => w'.cell? ⟨b, 1, none⟩ = some (.slice (some ⟨g2, 0, none⟩) n c2) ∧ w'.cell? ⟨bw, 0, none⟩ = some (.int .i64 x.pos) ∧ w'.rangeAt bw 1 (bv x.b) ∧ w'.there g2 (x.pos * 64) 64) (first | go_keep_ranges | (go_split_ands; exact keep17 ⟨by assumption, by assumption, by assumption, by assumption⟩ hb2g hwg)) ((go_split_ands; refine step_copy_cells rfl (.tmp 30) (.tmp 35) 39 39 rfl 5 Tryz.underlying39 size5 g2 (x.pos * 64) 64 64 ⟨bw, 1, none⟩ cn 64 (by rfl) (by rfl) (bv (x.b.take cn)) (tk17 hx64 _ (by omega)) (src17 (by assumption) _) (th17 (by assumption) (by rw [tk17 hx64 _ (by omega)]; exact Nat.min_le_right _ _)) (bv_one _) ?_))
       have hps : x.pos < sure.length := by have := HS.out.1; omega
       have HD3 : As (DiskAt (w2.drew.setCells g2 (x.pos * 64) (bv (x.b.take cn))) (And' own W) b n { s with sure := F } g1 c1 g2 c2 (.slice (some ⟨gw, 0, none⟩) s.wait.length kc)) := ⟨by
        have hD : DiskAt w2.drew (And' own W) b n { s with sure := sure } g1 c1 g2 c2 (.slice (some ⟨gw, 0, none⟩) s.wait.length kc) := HD2.out.keep (fun _ _ _ => rfl)
        have h1 := hD.storeS HS.out.2 HS.out.1 x.pos hps (x.b.take cn) (by rw [List.length_take]; omega)
        have h2 := HC.out
        rw [HDR.out, crashL, if_pos (show keep - (i : Int) ≤ 0 by omega), hcn.out, List.getD, List.getElem?_eq_getElem hps] at h2
        rw [← h2]
        exact h1⟩
       have HF3 : As (Frame own W (w2.drew.setCells g2 (x.pos * 64) (bv (x.b.take cn)))) := ⟨HF2.out.drew.setCells HD2.out.o2 _ _⟩
       go_wp2_with fail
       go_meet
       case rel => exact ⟨HD3, HF3⟩
    ·go_upto_region 6 with fail
     have hu := Tryz.underlying149
     have hi' : (Tryz.prog.info? 149).map (·.size) = some (bv x.b).length := by rw [bv_len, hx64]; exact size64
     have hlen' : (bv x.b).length = 64 := by rw [bv_len, hx64]
     have hone := bv_one x.b
     go_region_held3 (fun w' => w'.cell? ⟨b, 1, none⟩ = some (.slice (some ⟨g2, 0, none⟩) n c2) ∧ w'.cell? ⟨bw, 0, none⟩ = some (.int .i64 x.pos) ∧ w'.rangeAt bw 1 (bv x.b) ∧ w'.there g2 (x.pos * 64) 64) (first | go_keep_ranges | (go_split_ands; exact keep17 ⟨by assumption, by assumption, by assumption, by assumption⟩ hb2g hwg)) (fail)
     have hki : ¬ (keep - i ≤ 0) := by omega
     have hps : x.pos < sure.length := by have := HS.out.1; omega
     have HD3 : As (DiskAt (w2.drew.setCells g2 (x.pos * 64) (bv x.b)) (And' own W) b n { s with sure := sure.set x.pos x.b } g1 c1 g2 c2 (.slice (some ⟨gw, 0, none⟩) s.wait.length kc)) := ⟨by
      have hD : DiskAt w2.drew (And' own W) b n { s with sure := sure } g1 c1 g2 c2 (.slice (some ⟨gw, 0, none⟩) s.wait.length kc) := HD2.out.keep (fun _ _ _ => rfl)
      have := hD.storeS HS.out.2 HS.out.1 x.pos hps x.b (by omega)
      rwa [over_full _ _ (by rw [hx64, HS.out.2 _ (List.getElem_mem hps)])] at this⟩
     have HF3 : As (Frame own W (w2.drew.setCells g2 (x.pos * 64) (bv x.b))) := ⟨HF2.out.drew.setCells HD2.out.o2 _ _⟩
     have HC3 : As (crashL (cutN cut) (s.wait.drop (i + 1)) (keep - ((i + 1 : Nat) : Int)) (sure.set x.pos x.b) = F) := ⟨by
      have := HC.out
      rw [HDR.out, crashL, if_neg hki] at this
      rw [← this]
      congr 1
      omega⟩
     have HS3 : As ((sure.set x.pos x.b).length = n ∧ All64 (sure.set x.pos x.b)) := ⟨by rw [List.length_set]; exact HS.out.1, HS.out.2.set _ hx64⟩
     generalize w2.drew.setCells g2 (x.pos * 64) (bv x.b) = w3 at *
     clear HD2 HF2 HC HDR HS hbw d0 d1 d2 d3 d4 d5 e0 hrx htx hu hi' hlen' hone hki
     go_wp2_with fail
     go_roundg (s.wait.length - (i + 1))
     case measure => have := HK.out; omega
     case rel => exact ⟨i + 1, sure.set x.pos x.b, by go_num, ⟨rfl⟩, ⟨hi⟩, HC3, HS3, HD3, HF3⟩
   ·obtain rfl : i = s.wait.length := by have := HI.out; omega
    go_wp2_with fail
    go_meet
    case rel =>
     have := HC.out
     rw [List.drop_length] at this
     obtain rfl : sure = F := this
     exact ⟨HD, HF⟩
 case rest =>
  obtain ⟨HD, HF⟩ := hcut
  have HCF : As (crashF s keep cut = ⟨F, F, [], s.limit, -1, false⟩) := ⟨by unfold crashF; rw [HCR.out]⟩
  clear d0 d1 d2 d3 d4 d5 HCR
  obtain ⟨d0, d1, d2, d3, d4, d5⟩ := HD.out.cells
  go_wp2_with fail
  refine (clone_a HD.out.sure OK.out.n1 OK.out.n2).mono ?_
  rintro e0 w2 ⟨g', c', rfl, hown, hbg, hb2⟩
  have HO := As.mk hown
  have HB2 := As.mk hb2
  have hs2 := hb2.size
  have BR : As (w2.heap[b]? = some (.cells #[.slice (some ⟨g1, 0, none⟩) n c1, .slice (some ⟨g2, 0, none⟩) n c2, .slice A s.wait.length kc, .int .i64 s.limit, .int .i64 s.left, .bool s.dark] 70 (0, 0))) := ⟨(hb2.block b (blk_lt HD.out.blk)).trans HD.out.blk⟩
  have hbl := blk_lt HD.out.blk
  have hg2 : g2 < wc.heap.size := own_lt HD.out.sure g2 rfl
  have hg2b : g2 ≠ b := own_ne HD.out.sure HD.out.blk (by decide) _ rfl
  have hgb : g' ≠ b := by omega
  have hWc : As (W.heap.size ≤ wc.heap.size) := ⟨HF.out.low.size⟩
  clear hown hb2 d0 d1 d2 d3 d4 d5
  have d0 := (blk_cell BR.out 0).trans rfl
  have d2 := (blk_cell BR.out 2).trans rfl
  have d4 := (blk_cell BR.out 4).trans rfl
  have d5 := (blk_cell BR.out 5).trans rfl
  have f0 := blk_frozen BR.out 0
  have f2 := blk_frozen BR.out 2
  have f4 := blk_frozen BR.out 4
  have f5 := blk_frozen BR.out 5
  go_wp2_with fail
  go_end0
  rw [HCF.out]
  refine ⟨rfl, ⟨by have := OKF.out; rwa [HCF.out] at this, g', c', g2, c2, .slice none 0 0, ?_⟩, ?_⟩
  ·refine ⟨?_, ?_, ?_, World.ownsRow_nil _ _ _ _, by omega, HD.out.o0, .inr (by have := hWc.out; omega), HD.out.o2, fun g hg => by simp [Value.ownBlock] at hg⟩
   ·rw [blk_put (blk_put (blk_put (blk_put BR.out 0 _) 2 _) 4 _) 5]
    simp
   ·refine own_keep HO.out (fun g hg hl => ?_)
    obtain rfl := ob_eq hg
    rw [Below.heap_setCell _ _ _ _ hgb, Below.heap_setCell _ _ _ _ hgb, Below.heap_setCell _ _ _ _ hgb, Below.heap_setCell _ _ _ _ hgb]
   ·refine own_keep HD.out.sure (fun g hg hl => ?_)
    obtain rfl := ob_eq hg
    rw [Below.heap_setCell _ _ _ _ hg2b, Below.heap_setCell _ _ _ _ hg2b, Below.heap_setCell _ _ _ _ hg2b, Below.heap_setCell _ _ _ _ hg2b, HB2.out.block _ hl]
  ·exact ((((HF.out.trans (Frame.of_below (own := own) HB2.out (Nat.le_refl _)) (fun _ _ h => h)).setCell (p := ⟨b, 0, none⟩) HD.out.o0 _).setCell (p := ⟨b, 2, none⟩) HD.out.o0 _).setCell (p := ⟨b, 4, none⟩) HD.out.o0 _).setCell (p := ⟨b, 5, none⟩) HD.out.o0 _
end Go.Proofs.YthfjhgdiakciaaaGreat.Bl
/- Sums of bytes (package sum). Condition: the bytes read as they are told. -/
namespace Go.Proofs.YthfjhgdiakciaaaGreat.Bl
open Go.RowKit
set_option linter.unusedVariables false
set_option linter.unusedSimpArgs false
def stepF (r : Int) : Int := if (bits BinOp.and IntKind.u32 r 1 == 1) = true then bits BinOp.xor IntKind.u32 (r / 2) 3988292384 else r / 2
theorem step_a (r : Int) (h : 0 ≤ r ∧ r < 4294967296) (W : World) :
  Calls Tryz.prog 120 #[.int .u32 r] W fun e W' => e = .returned (.int .u32 (stepF r)) ∧ W = W' := by
 cases hb : (bits BinOp.and IntKind.u32 r 1 == 1) with
 | true =>
  have e : As (stepF r = bits BinOp.xor IntKind.u32 (r / 2) 3988292384) := ⟨by unfold stepF; rw [if_pos hb]⟩
  go_enter Tryz.func120, Tryz.ntmps120
  go_wp2_with fail
  go_ret
  rw [e.out]
  exact ⟨rfl, rfl⟩
 | false =>
  have e : As (stepF r = r / 2) := ⟨by unfold stepF; rw [if_neg (by rw [hb]; decide)]⟩
  go_enter Tryz.func120, Tryz.ntmps120
  go_wp2_with fail
  go_ret
  rw [e.out]
  exact ⟨rfl, rfl⟩
end Go.Proofs.YthfjhgdiakciaaaGreat.Bl
/- Sums of bytes: More, Of. Condition: the bytes read as they are told. -/
namespace Go.Proofs.YthfjhgdiakciaaaGreat.Bl
open Go.RowKit
set_option linter.unusedVariables false
set_option linter.unusedSimpArgs false
theorem wrap_u32_range (x : Int) : 0 ≤ IntKind.u32.wrap x ∧ IntKind.u32.wrap x < 4294967296 := by
 simp [IntKind.wrap, IntKind.bits, IntKind.signed]
 omega
theorem xor_u32 (a b : Int) : 0 ≤ bits .xor .u32 a b ∧ bits .xor .u32 a b < 4294967296 := wrap_u32_range _
theorem stepF_range {r : Int} (h : 0 ≤ r ∧ r < 4294967296) : 0 ≤ stepF r ∧ stepF r < 4294967296 := by
 unfold stepF
 split
 ·exact xor_u32 _ _
 ·omega
def stepN : Nat → Int → Int
 | 0, r => r
 | n + 1, r => stepF (stepN n r)
def byteR (r c : Int) : Int := stepN 8 (bits .xor .u32 r c)
def moreR (r : Int) (x : List Int) : Int := x.foldl byteR r
theorem moreR_snoc (r : Int) (x : List Int) (c : Int) : moreR r (x ++ [c]) = byteR (moreR r x) c := by simp [moreR]
def not32 (r : Int) : Int := bits .xor .u32 IntKind.u32.max r
def moreF (s : Int) (x : List Int) : Int := not32 (moreR (not32 s) x)
theorem moreF_range (s : Int) (x : List Int) : 0 ≤ moreF s x ∧ moreF s x < 4294967296 := xor_u32 _ _
theorem more_a (s : Int) (hs : 0 ≤ s ∧ s < 4294967296) {W : World} {A : Option Addr} {x : List Int} (h : Bytes W A x) (hlen : x.length < 1000000) (c : Nat) :
  Calls Tryz.prog 93 #[.int .u32 s, .slice A x.length c] W fun e W' => e = .returned (.int .u32 (moreF s x)) ∧ W = W' := by
 have HB := As.mk h
 have HE : As (moreF s x = not32 (moreR (not32 s) x)) := ⟨rfl⟩
 have hn := xor_u32 IntKind.u32.max s
 clear h
 go_enter Tryz.func93, Tryz.ntmps93
 go_wp2_with fail
 go_loopg [5, 12] x.length (fun gk v5 v12 w' => ∃ (i : Nat) (r : Int), v12 = .int .i64 i ∧ v5 = .int .u32 r ∧ As (r = moreR (not32 s) (x.take i)) ∧ As (0 ≤ r ∧ r < 4294967296) ∧ As (i ≤ x.length) ∧ As (gk = x.length - i) ∧ As (W = w'))
 case atStart => exact ⟨0, _, rfl, rfl, ⟨by simp [moreR, not32]⟩, ⟨hn⟩, ⟨Nat.zero_le _⟩, ⟨rfl⟩, ⟨rfl⟩⟩
 case round =>
  obtain ⟨i, r, rfl, rfl, HR, HG, HI, HK, HW⟩ := hrel
  obtain rfl := HW.out
  by_cases hlt : i < x.length
  ·obtain ⟨q, o, rfl, hq, hr⟩ := HB.out.2 (by intro e; rw [e] at hlt; simp at hlt)
   have hc := hr i (.int .u8 x[i]) (by rw [bv_get, List.getElem?_eq_getElem hlt]; rfl)
   have hb := HB.out.1 x[i] (List.getElem_mem hlt)
   obtain ⟨cx, hcx⟩ : ∃ cx, cx = x[i] := ⟨_, rfl⟩
   have HX := As.mk hcx
   rw [← hcx] at hc hb
   clear hr hcx
   go_wp2_with fail
   have hx0 := xor_u32 r cx
   go_loopg [5, 20] 8 (fun gk2 v5 v20 w2 => ∃ (k : Nat) (r2 : Int), v20 = .int .i64 k ∧ v5 = .int .u32 r2 ∧ As (r2 = stepN k (bits .xor .u32 r cx)) ∧ (0 ≤ r2 ∧ r2 < 4294967296) ∧ As (k ≤ 8) ∧ As (gk2 = 8 - k) ∧ As (W = w2))
   case atStart => exact ⟨0, _, rfl, rfl, ⟨rfl⟩, hx0, ⟨by omega⟩, ⟨rfl⟩, ⟨rfl⟩⟩
   case round =>
    obtain ⟨k, r2, rfl, rfl, HR2, HG2, HI2, HK2, HW2⟩ := hrel
    obtain rfl := HW2.out
    by_cases hk : k < 8
    ·go_wp2_with fail
     refine (step_a r2 HG2 W).mono ?_
     rintro e w1 ⟨rfl, rfl⟩
     go_wp2_with fail
     go_roundg (8 - (k + 1))
     case measure => have := HK2.out; omega
     case rel => exact ⟨k + 1, _, by go_num, rfl, ⟨by rw [HR2.out]; rfl⟩, stepF_range HG2, ⟨by omega⟩, ⟨rfl⟩, ⟨rfl⟩⟩
    ·obtain rfl : k = 8 := by have := HI2.out; omega
     go_wp2_with fail
     go_roundg (x.length - (i + 1))
     case measure => have := HK.out; omega
     case rel => exact ⟨i + 1, _, by go_num, rfl, ⟨by rw [HR2.out, HR.out, HX.out]; rw [List.take_add_one, List.getElem?_eq_getElem hlt]; exact (moreR_snoc _ _ _).symm⟩, ⟨HG2⟩, ⟨by omega⟩, ⟨rfl⟩, ⟨rfl⟩⟩
  ·obtain rfl : i = x.length := by have := HI.out; omega
   go_wp2_with fail
   go_ret
   rw [HE.out, not32, HR.out]
   simp
theorem of_a {W : World} {A : Option Addr} {x : List Int} (h : Bytes W A x) (hlen : x.length < 1000000) (c : Nat) :
  Calls Tryz.prog 94 #[.slice A x.length c] W fun e W' => e = .returned (.int .u32 (moreF 0 x)) ∧ W = W' := by
 have H := As.mk (more_a 0 (by omega) h hlen c)
 clear h
 go_enter Tryz.func94, Tryz.ntmps94
 go_wp2_with fail
 refine H.out.mono ?_
 rintro e w1 ⟨rfl, rfl⟩
 go_wp2_with fail
 go_ret
 exact ⟨rfl, rfl⟩
end Go.Proofs.YthfjhgdiakciaaaGreat.Bl
/- Bytes that are laid one by one: a Writer (NewWriter, put, U8, U16, U32, U64, Text, Done). Condition: the receiver is such a Writer of the call's own. -/
namespace Go.Proofs.YthfjhgdiakciaaaGreat.Bl
open Go.RowKit
set_option linter.unusedVariables false
set_option linter.unusedSimpArgs false
/-- A number's bytes, the greatest first. -/
def be (n : Int) (k : Nat) : List Int := (List.range k).map fun i => n / 2 ^ (8 * (k - 1 - i)) % 256
theorem be_len (n : Int) (k : Nat) : (be n k).length = k := by simp [be]
theorem be_ok (n : Int) (k : Nat) : ByteOk (be n k) := fun y hy => by
 obtain ⟨i, _, rfl⟩ := List.mem_map.1 hy
 omega
theorem be_take (n : Int) (k i : Nat) (h : i < k) : (be n k).take (i + 1) = (be n k).take i ++ [n / 2 ^ (8 * (k - 1 - i)) % 256] := by
 rw [List.take_add_one, List.getElem?_eq_getElem (by rw [be_len]; exact h)]
 simp [be]
theorem ByteOk.app {x y : List Int} (h : ByteOk x) (k : ByteOk y) : ByteOk (x ++ y) := fun z hz => (List.mem_append.1 hz).elim (h z) (k z)
theorem bv_app (x y : List Int) : bv (x ++ y) = bv x ++ bv y := List.map_append
structure Wt (W : World) (base p : Nat) (x : List Int) : Prop where
 ok : ByteOk x
 lo : base ≤ p
 at_ : ∃ v, W.heap[p]? = some (.cells #[v, .bool false] 212 (0, 0)) ∧ W.ownsRow base 5 1 v x.length (bv x)
theorem neww_a (W : World) : Calls Tryz.prog 84 #[] W fun e W' => ∃ p, e = .returned (.pointer (some ⟨p, 0, none⟩)) ∧ Wt W' W.heap.size p [] ∧ Below W.heap.size W W' := by
 go_enter Tryz.func84, Tryz.ntmps84
 go_wp2_with fail
 go_ret
 exact ⟨_, rfl, ⟨(fun y hy => nomatch hy), Nat.le_refl _, _, blk_new W _, World.ownsRow_nil _ _ _ _⟩, (Below.refl _ _).alloc (Nat.le_refl _) _⟩
set_option maxHeartbeats 4000000 in
set_option maxRecDepth 100000 in
theorem put_a {W : World} {base p : Nat} {x : List Int} (h : Wt W base p x) (n : Int) (hn : 0 ≤ n ∧ n < 18446744073709551616) (k : Nat) (hk : k ≤ 8) (hx : x.length < 1000000) :
  Calls Tryz.prog 119 #[.pointer (some ⟨p, 0, none⟩), .int .u64 n, .int .i64 k] W fun e W' => e = .returned (.pointer (some ⟨p, 0, none⟩)) ∧ Wt W' base p (x ++ be n k) ∧ Below base W W' := by
 obtain ⟨i0, hi0, hz0, hz1, hz2⟩ := info_parts info5
 have H := As.mk h
 clear h
 go_enter Tryz.func119, Tryz.ntmps119
 go_wp2_with fail
 go_loopg [11] k (fun gk v11 w' => ∃ (i : Nat), v11 = .int .i64 i ∧ As (Wt w' base p (x ++ (be n k).take i)) ∧ As (i ≤ k) ∧ As (gk = k - i) ∧ As (Below base W w'))
 case atStart => exact ⟨0, rfl, ⟨by simpa using H.out⟩, ⟨Nat.zero_le _⟩, ⟨rfl⟩, ⟨Below.refl _ _⟩⟩
 case round =>
  obtain ⟨i, rfl, HW, HI, HK, HB⟩ := hrel
  by_cases hlt : i < k
  ·obtain ⟨hok, hlo, v, hb, hv⟩ := HW.out
   have hc0 := (blk_cell hb 0).trans rfl
   have hps := blk_lt hb
   have HV := As.mk hv
   have HBk := As.mk hb
   have HOK := As.mk hok
   have hm : (0 : Int) ≤ 8 * ((k : Int) - 1 - (i : Int)) := by omega
   clear hb hv hok
   go_upto_region 6 with fail
   refine wp_region_plan_held 17 (fun w' => w'.cell? ⟨p, 0, none⟩ = some v) [(1, 0), (1, 1), (1, 2), (1, 3), (0, 4), (1, 5), (1, 6), (1, 7), (1, 8), (1, 9), (1, 10), (1, 11), (1, 12), (2, 13), (2, 14), (1, 15), (1, 16), (2, 17)] (by kernel_rfl) (by kernel_rfl) (by kernel_rfl) (by kernel_rfl) (fun _ _ _ _ _ h => h) hc0 ?_
   simp only [tagged, List.filterMap_cons, List.filterMap_nil, List.getElem?_toArray, List.getElem?_cons_succ, List.getElem?_cons_zero, Option.map_some]
   iterate 4 (refine wpHeld_sure (fun K hK => ?_); go_simp; refine hK _ ?_; clear hK K)
   refine wpHeld_take (fun K hK => ?_)
   rw [if_pos (by rfl)]
   apply Exists.intro
   refine ⟨fun w' hw' => ?_, hK _ ?_⟩
   ·go_simp
    rfl
   clear hK K
   iterate 6 (refine wpHeld_sure (fun K hK => ?_); go_simp; refine hK _ ?_; clear hK K)
   refine wpHeld_sure (fun K hK => ?_)
   go_simp
   have ew : IntKind.i64.wrap (8 * IntKind.i64.wrap (IntKind.i64.wrap ((k : Int) - 1) - (i : Int))) = ((8 * (k - 1 - i) : Nat) : Int) := by
    have e1 : IntKind.i64.wrap ((k : Int) - 1) = (k : Int) - 1 := by simp [IntKind.wrap, IntKind.bits, IntKind.signed]; omega
    rw [e1]
    have e2 : IntKind.i64.wrap ((k : Int) - 1 - (i : Int)) = (k : Int) - 1 - (i : Int) := by simp [IntKind.wrap, IntKind.bits, IntKind.signed]; omega
    rw [e2]
    have e3 : IntKind.i64.wrap (8 * ((k : Int) - 1 - (i : Int))) = 8 * ((k : Int) - 1 - (i : Int)) := by simp [IntKind.wrap, IntKind.bits, IntKind.signed]; omega
    rw [e3]
    omega
   have hsh : Op.shift .shr .u64 n .i64 ((8 * (k - 1 - i) : Nat) : Int) = pure (.int .u64 (n / 2 ^ (8 * (k - 1 - i)))) := by
    have h64 : IntKind.u64.bits = 64 := rfl
    have := shift_shr .u64 .i64 n ((8 * (k - 1 - i) : Nat) : Int) (by omega) (by rw [h64]; omega)
    rw [Int.toNat_natCast] at this
    exact this
   rw [ew, hsh]
   clear hsh
   refine ⟨.int .u64 (n / 2 ^ (8 * (k - 1 - i))), fun w' => ?_, hK _ ?_⟩
   ·simp [Result.andThen]
   clear hK K
   obtain ⟨y, hy⟩ : ∃ y, y = n / 2 ^ (8 * (k - 1 - i)) := ⟨_, rfl⟩
   have hy0 : 0 ≤ y := by rw [hy]; exact Int.ediv_nonneg hn.1 (Int.pow_nonneg (by decide))
   have HY := As.mk hy
   rw [← hy]
   clear hy ew
   iterate 1 (refine wpHeld_sure (fun K hK => ?_); go_simp; refine hK _ ?_; clear hK K)
   refine wpHeld_next (fun K hK => ?_)
   go_simp
   have ewb : IntKind.u8.wrap y = n / 2 ^ (8 * (k - 1 - i)) % 256 := by rw [← HY.out]; simp [IntKind.wrap, IntKind.bits, IntKind.signed]
   obtain ⟨z, hz⟩ : ∃ z, z = n / 2 ^ (8 * (k - 1 - i)) % 256 := ⟨_, rfl⟩
   have HZ := As.mk hz
   rw [ewb, ← hz]
   clear ewb hz
   have hblk : As (((wr.alloc (.cells #[.int .u8 z] 5)).drew).heap[p]? = some (.cells #[v, .bool false] 212 (0, 0))) := ⟨blk_old HBk.out _⟩
   have hnew : As (((wr.alloc (.cells #[.int .u8 z] 5)).drew).heap[wr.heap.size]? = some (.cells #[.int .u8 z] 5 (0, 0))) := ⟨blk_new wr _⟩
   have hsz : ((wr.alloc (.cells #[.int .u8 z] 5)).drew).heap.size = wr.heap.size + 1 := by simp
   have hown : As (((wr.alloc (.cells #[.int .u8 z] 5)).drew).ownsRow base 5 1 v (x ++ (be n k).take i).length (bv (x ++ (be n k).take i))) := ⟨own_keep (HV.out.alloc _) (fun _ _ _ => rfl)⟩
   have hlow : As (Below base W ((wr.alloc (.cells #[.int .u8 z] 5)).drew)) := ⟨(HB.out.alloc (by omega) _).drew⟩
   generalize (wr.alloc (.cells #[.int .u8 z] 5)).drew = w5 at *
   refine hK _ _ (fun _ => (blk_cell hblk.out 0).trans rfl) ?_
   clear hK K
   have hbl : base ≤ w5.heap.size := by omega
   have hln : (x ++ (be n k).take i).length ≤ 1000008 := by rw [List.length_append, List.length_take, be_len]; omega
   refine wpHeld_next (fun K hK => ?_)
   refine step_append_lies w5 (by rfl) _ _ _ (by rfl) base 5 i0 (.int .u8 0) 1 1 Tryz.underlying39 hi0 hz0 hz1 hz2 (by rfl) (by omega) v _ _ (by rfl) hown.out
    ⟨wr.heap.size, 0, none⟩ 1 1 [.int .u8 z] (by rfl) rfl (World.news_of_block hnew.out) (by simp [Value.oneCell']) (by omega) (by unfold maxLen; omega) (by omega) (by omega) _ rfl ?_
   intro gg cap w7 hown7 hgrow7 hat7 hlt7
   have hvb : ∀ g, v.ownBlock = some g → g ≠ p := own_ne hown.out hblk.out (by decide)
   have hb7 : As (w7.heap[p]? = some (.cells #[v, .bool false] 212 (0, 0))) := ⟨(hgrow7.block p (by omega) (fun e => hvb p e.symm rfl)).trans hblk.out⟩
   have hB7 : As (Below base W w7) := ⟨hlow.out.grown hgrow7 hbl (fun k hk => (hown.out.lt k hk).1)⟩
   have HO7 := As.mk hown7
   have hgp : gg ≠ p := fun e => own_ne hown7 hb7.out (by decide) gg rfl e
   clear hown7 hgrow7 hat7 hlt7 hblk hnew hown hlow HV HBk hvb
   have d0 := (blk_cell hb7.out 0).trans rfl
   have f0 := blk_frozen hb7.out 0
   refine hK _ _ (fun _ => d0) ?_
   clear hK K
   iterate 2 (refine wpHeld_sure (fun K hK => ?_); go_simp; refine hK _ ?_; clear hK K)
   refine wpHeld_next (fun K hK => ?_)
   go_simp
   refine hK _ _ (fun h => absurd rfl h) ?_
   clear hK K
   refine wpHeld_nil ?_
   go_wp2_with fail
   go_roundg (k - (i + 1))
   case measure => have := HK.out; omega
   case rel =>
    refine ⟨i + 1, by go_num, ⟨⟨?_, hlo, _, blk_put hb7.out 0 _, ?_⟩⟩, ⟨by omega⟩, ⟨rfl⟩, ⟨hB7.out.setCell hlo _⟩⟩
    ·rw [be_take n k i hlt, ← HZ.out, ← List.append_assoc]
     refine HW.out.ok.app (fun y hy => ?_)
     have hy : y = z := by simpa using hy
     rw [hy, HZ.out]
     omega
    ·have e : (x ++ (be n k).take (i + 1)).length = (x ++ (be n k).take i).length + 1 := by rw [be_take n k i hlt]; simp; omega
     rw [e, be_take n k i hlt, ← HZ.out, ← List.append_assoc, bv_app, ← List.length_take, ← List.length_append]
     exact own_keep HO7.out (fun g hg _ => Below.heap_setCell _ _ _ _ (by rw [← ob_eq hg]; exact hgp))
  ·obtain rfl : i = k := by have := HI.out; omega
   have e : (be n i).take i = be n i := List.take_of_length_le (by rw [be_len]; exact Nat.le_refl _)
   have HW' := HW.out
   rw [e] at HW'
   have HW' := As.mk HW'
   clear e HW
   go_wp2_with fail
   go_ret
   exact ⟨rfl, HW'.out, HB.out⟩
section
variable {W : World} {base p : Nat} {x : List Int}
theorem u8_a (h : Wt W base p x) (n : Int) (hn : 0 ≤ n ∧ n < 256) (hx : x.length < 1000000) :
  Calls Tryz.prog 85 #[.pointer (some ⟨p, 0, none⟩), .int .u8 n] W fun e W' => e = .returned (.pointer (some ⟨p, 0, none⟩)) ∧ Wt W' base p (x ++ be n 1) ∧ Below base W W' := by
 have H := As.mk (put_a h n (by omega) 1 (by omega) hx)
 clear h
 go_enter Tryz.func85, Tryz.ntmps85
 go_wp2_with fail
 refine H.out.mono ?_
 rintro e w1 ⟨rfl, h1, h2⟩
 have H1 := As.mk h1
 have H2 := As.mk h2
 clear h1 h2
 go_wp2_with fail
 go_ret
 exact ⟨rfl, H1.out, H2.out⟩
theorem u16_a (h : Wt W base p x) (n : Int) (hn : 0 ≤ n ∧ n < 65536) (hx : x.length < 1000000) :
  Calls Tryz.prog 92 #[.pointer (some ⟨p, 0, none⟩), .int .u16 n] W fun e W' => e = .returned (.pointer (some ⟨p, 0, none⟩)) ∧ Wt W' base p (x ++ be n 2) ∧ Below base W W' := by
 have H := As.mk (put_a h n (by omega) 2 (by omega) hx)
 clear h
 go_enter Tryz.func92, Tryz.ntmps92
 go_wp2_with fail
 refine H.out.mono ?_
 rintro e w1 ⟨rfl, h1, h2⟩
 have H1 := As.mk h1
 have H2 := As.mk h2
 clear h1 h2
 go_wp2_with fail
 go_ret
 exact ⟨rfl, H1.out, H2.out⟩
theorem u32_a (h : Wt W base p x) (n : Int) (hn : 0 ≤ n ∧ n < 4294967296) (hx : x.length < 1000000) :
  Calls Tryz.prog 87 #[.pointer (some ⟨p, 0, none⟩), .int .u32 n] W fun e W' => e = .returned (.pointer (some ⟨p, 0, none⟩)) ∧ Wt W' base p (x ++ be n 4) ∧ Below base W W' := by
 have H := As.mk (put_a h n (by omega) 4 (by omega) hx)
 clear h
 go_enter Tryz.func87, Tryz.ntmps87
 go_wp2_with fail
 refine H.out.mono ?_
 rintro e w1 ⟨rfl, h1, h2⟩
 have H1 := As.mk h1
 have H2 := As.mk h2
 clear h1 h2
 go_wp2_with fail
 go_ret
 exact ⟨rfl, H1.out, H2.out⟩
theorem u64_a (h : Wt W base p x) (n : Int) (hn : 0 ≤ n ∧ n < 18446744073709551616) (hx : x.length < 1000000) :
  Calls Tryz.prog 86 #[.pointer (some ⟨p, 0, none⟩), .int .u64 n] W fun e W' => e = .returned (.pointer (some ⟨p, 0, none⟩)) ∧ Wt W' base p (x ++ be n 8) ∧ Below base W W' := by
 have H := As.mk (put_a h n (by omega) 8 (by omega) hx)
 clear h
 go_enter Tryz.func86, Tryz.ntmps86
 go_wp2_with fail
 refine H.out.mono ?_
 rintro e w1 ⟨rfl, h1, h2⟩
 have H1 := As.mk h1
 have H2 := As.mk h2
 clear h1 h2
 go_wp2_with fail
 go_ret
 exact ⟨rfl, H1.out, H2.out⟩
set_option maxRecDepth 100000 in
/-- Bytes of some length above nought, which don't lie in the Writer's own blocks. -/
theorem text_a (h : Wt W base p x) {q o : Nat} {s : List Int} (hs : Bytes W (some ⟨q, o, none⟩) s) (hs1 : 0 < s.length) (hs2 : s.length ≤ 255) (hq : q < base) (c : Nat) (hx : x.length < 900000) :
  Calls Tryz.prog 88 #[.pointer (some ⟨p, 0, none⟩), .slice (some ⟨q, o, none⟩) s.length c] W fun e W' => e = .returned (.pointer (some ⟨p, 0, none⟩)) ∧ Wt W' base p (x ++ be s.length 1 ++ s) ∧ Below base W W' := by
 obtain ⟨i0, hi0, hz0, hz1, hz2⟩ := info_parts info5
 have H := As.mk (u8_a h s.length (by omega) (by omega))
 have HS := As.mk hs
 obtain ⟨m, hm⟩ : ∃ m : Nat, m = s.length := ⟨_, rfl⟩
 have HM := As.mk hm
 rw [← hm] at H hs1 hs2
 rw [← hm]
 have hcv : IntKind.u8.wrap (m : Int) = m := by simp [IntKind.wrap, IntKind.bits, IntKind.signed]; omega
 clear h hs hm
 go_enter Tryz.func88, Tryz.ntmps88
 go_wp2_with fail
 refine H.out.mono ?_
 rintro e w1 ⟨rfl, h1, h2⟩
 obtain ⟨hok, hlo, v, hb, hv⟩ := h1
 have hps := blk_lt hb
 have d0 := (blk_cell hb 0).trans rfl
 have f0 := blk_frozen hb 0
 have HB := As.mk hb
 have HV := As.mk hv
 have HOK := As.mk hok
 have H2 := As.mk h2
 have HS1 : As (Bytes w1 (some ⟨q, o, none⟩) s) := ⟨HS.out.keep (fun q' o' e hq' => by
  injection e with e
  injection e with e
  exact h2.block _ (by omega)) h2.size⟩
 have hsrc : As (∀ j u, (bv s)[j]? = some u → w1.cell? ((⟨q, o, none⟩ : Addr).add j) = some u) := ⟨fun j u hu => by
  obtain ⟨q', o', e, _, hr⟩ := HS1.out.2 (by intro e; rw [HM.out, e] at hs1; exact absurd hs1 (by decide))
  injection e with e
  injection e with e1 e2
  subst e1 e2
  rw [Addr.add_mid]
  exact hr j u hu⟩
 have hxl : (x ++ be m 1).length < 900008 := by rw [List.length_append, be_len]; omega
 have hbl : base ≤ w1.heap.size := by omega
 clear h2 hb hv hok H
 go_wp2_with ((at_builtin; refine wpList_append_lies _ rfl _ _ 39 rfl base 5 i0 (.int .u8 0) 1 1 Tryz.underlying39 hi0 hz0 hz1 hz2 rfl (by omega) v _ _ rfl HV.out ⟨q, o, none⟩ m c (bv s) rfl (by rw [bv_len, Nat.mul_one]; exact HM.out.symm) hsrc.out (bv_one s) (by omega) (by unfold maxLen; omega) (by omega) hbl _ rfl ?_))
 intro gg cap w7 hown7 hgrow7 hat7 hlt7
 have hvb : ∀ g, v.ownBlock = some g → g ≠ p := own_ne HV.out HB.out (by decide)
 have hb7 : As (w7.heap[p]? = some (.cells #[v, .bool false] 212 (0, 0))) := ⟨(hgrow7.block p (by omega) (fun e => hvb p e.symm rfl)).trans HB.out⟩
 have hB7 : As (Below base W w7) := ⟨H2.out.grown hgrow7 hbl (fun k hk => (HV.out.lt k hk).1)⟩
 have HO7 := As.mk hown7
 have hgp : gg ≠ p := fun e => own_ne hown7 hb7.out (by decide) gg rfl e
 clear hown7 hgrow7 hat7 hlt7 HV HB hvb d0 f0 hsrc
 have d0 := (blk_cell hb7.out 0).trans rfl
 have f0 := blk_frozen hb7.out 0
 go_wp2_with fail
 go_ret
 refine ⟨rfl, ⟨HOK.out.app HS.out.1, hlo, _, blk_put hb7.out 0 _, ?_⟩, hB7.out.setCell hlo _⟩
 rw [bv_app, List.length_append, List.length_append, ← HM.out]
 exact own_keep HO7.out (fun g hg _ => Below.heap_setCell _ _ _ _ (by rw [← ob_eq hg]; exact hgp))
theorem done_a (h : Wt W base p x) (hx0 : 0 < x.length) (hx : x.length < 1000000) :
  Calls Tryz.prog 90 #[.pointer (some ⟨p, 0, none⟩)] W fun e W' => ∃ v, e = .returned (.tuple #[v, .int .i64 0]) ∧ W'.ownsRow W.heap.size 5 1 v x.length (bv x) ∧ Below W.heap.size W W' := by
 obtain ⟨i0, hi0, hz0, hz1, hz2⟩ := info_parts info5
 obtain ⟨hok, hlo, v, hb, hv⟩ := h
 obtain ⟨g, cap, rfl, hbg, hl⟩ := hv.form hx0
 have hps := blk_lt hb
 have hc0 := (blk_cell hb 0).trans rfl
 have hc1 := (blk_cell hb 1).trans rfl
 have HB := As.mk hb
 have HV := As.mk hv
 have hsrc : As (∀ j u, (bv x)[j]? = some u → (W.alloc (.cells #[] 5 (0, 0))).cell? ((⟨g, 0, none⟩ : Addr).add j) = some u) := ⟨fun j u hu => by
  rw [add0, World.cell?_alloc_lt _ _ _ hl, hv.cellAt j (by rw [← hv.1]; exact (List.getElem?_eq_some_iff.1 hu).1)]
  exact hu⟩
 have hown0 : As ((W.alloc (.cells #[] 5 (0, 0))).ownsRow W.heap.size 5 1 (.slice (some ⟨W.heap.size, 0, none⟩) 0 0) 0 []) := ⟨World.ownsRow_lit W #[] 0 (Nat.le_refl _) (Nat.zero_le _) rfl⟩
 clear hb hv
 go_enter Tryz.func90, Tryz.ntmps90
 go_wp2_with ((at_builtin; refine wpList_append_lies _ rfl _ _ 39 rfl W.heap.size 5 i0 (.int .u8 0) 1 1 Tryz.underlying39 hi0 hz0 hz1 hz2 rfl (by omega) _ _ _ rfl hown0.out ⟨g, 0, none⟩ x.length cap (bv x) rfl (by rw [bv_len, Nat.mul_one]) hsrc.out (bv_one x) (by omega) (by unfold maxLen; omega) (by omega) (by simp) _ rfl ?_))
 intro gg cap' w7 hown7 hgrow7 hat7 hlt7
 have HO7 := As.mk hown7
 have hB7 : As (Below W.heap.size W w7) := ⟨((Below.refl _ _).alloc (Nat.le_refl _) _).grown hgrow7 (by simp) (fun k hk => Nat.le_of_eq (ob_eq hk))⟩
 clear hown7 hgrow7 hat7 hlt7
 go_wp2_with fail
 go_ret2
 exact ⟨_, rfl, HO7.out, hB7.out⟩
end
end Go.Proofs.YthfjhgdiakciaaaGreat.Bl
