/- Frames: Size, Put, Get. Condition: the bytes read as they are told. -/
import Derived.WalkMore
import Derived.ScopeJumps
import Derived.Test.YthfjhgdiakciaaaGreatM04
import Derived.Test.YthfjhgdiakciaaaGreatM06
namespace Go.Proofs.YthfjhgdiakciaaaGreat.Bl
open Go.RowKit
set_option linter.unusedVariables false
set_option linter.unusedSimpArgs false
def sumF (body : List Int) : Int := moreF (moreF 0 (be body.length 2)) body
def headF (body : List Int) : List Int := be 55206 2 ++ be body.length 2 ++ be (sumF body) 4
def frameF (body : List Int) : List Int := headF body ++ body
theorem headF_len (body : List Int) : (headF body).length = 8 := by simp [headF, be_len]
theorem frameF_len (body : List Int) : (frameF body).length = 8 + body.length := by rw [frameF, List.length_append, headF_len]
theorem frameF_ok {body : List Int} (h : ByteOk body) : ByteOk (frameF body) := (((be_ok _ _).app (be_ok _ _)).app (be_ok _ _)).app h
theorem fsize_a (n : Nat) (h : n ≤ 2000) (W : World) : Calls Tryz.prog 72 #[.int .i64 n] W fun e W' => e = .returned (.int .i64 ((8 + n : Nat) : Int)) ∧ W = W' := by
 have e : ((8 + n : Nat) : Int) = 8 + (n : Int) := by omega
 rw [e]
 clear e
 go_enter Tryz.func72, Tryz.ntmps72
 go_wp2_with fail
 go_ret
 exact ⟨rfl, rfl⟩
theorem bytes_own {W : World} {base n : Nat} {v : Value} {x : List Int} (h : W.ownsRow base 5 1 v n (bv x)) (h0 : 0 < n) (hb : ByteOk x) : ∃ g c, v = .slice (some ⟨g, 0, none⟩) n c ∧ n ≤ c ∧ base ≤ g ∧ g < W.heap.size ∧ x.length = n ∧ Bytes W (some ⟨g, 0, none⟩) x := by
 obtain ⟨g, c, rfl, hbg, hl⟩ := h.form h0
 obtain ⟨_, _, _, hc, _⟩ := own_block h
 exact ⟨g, c, rfl, hc, hbg, hl, by have := h.1; rw [bv_len] at this; omega, bytes_of_own h hb⟩
set_option maxHeartbeats 4000000 in
set_option maxRecDepth 100000 in
theorem fput_a {W : World} {q o : Nat} {x : List Int} (h : Bytes W (some ⟨q, o, none⟩) x) (hq : q < W.heap.size) (hx0 : 0 < x.length) (hx : x.length ≤ 2000) (c : Nat) :
  Calls Tryz.prog 48 #[.slice (some ⟨q, o, none⟩) x.length c] W fun e W' => ∃ v, e = .returned (.tuple #[v, .int .i64 0]) ∧ W'.ownsRow W.heap.size 5 1 v (8 + x.length) (bv (frameF x)) ∧ Below W.heap.size W W' := by
 obtain ⟨i0, hi0, hz0, hz1, hz2⟩ := info_parts info5
 have HX := As.mk h
 have hcv : IntKind.u16.wrap (x.length : Int) = x.length := by simp [IntKind.wrap, IntKind.bits, IntKind.signed]; omega
 clear h
 go_enter Tryz.func48, Tryz.ntmps48
 go_wp2_with fail
 refine (neww_a W).mono ?_
 rintro e w1 ⟨p1, rfl, h1, b1⟩
 have H1 := As.mk h1
 have B1 := As.mk b1
 clear h1 b1
 go_wp2_with fail
 refine (u16_a H1.out x.length (by omega) (by simp)).mono ?_
 rintro e w2 ⟨rfl, h2, b2⟩
 have H2 := As.mk h2
 have B2 := As.mk (B1.out.trans b2)
 clear h2 b2 H1 B1
 go_wp2_with fail
 refine (done_a H2.out (by rw [List.nil_append, be_len]; omega) (by rw [List.nil_append, be_len]; omega)).mono ?_
 rintro e w3 ⟨v3, rfl, h3, b3⟩
 have eb : (be (x.length : Int) 2).length = 2 := be_len _ _
 rw [List.nil_append, eb] at h3
 obtain ⟨g3, c3, rfl, hc3, hg3, hl3, hn3, hb3⟩ := bytes_own h3 (by omega) (be_ok _ _)
 have s2 := B2.out.size
 have B3 := As.mk (B2.out.trans (b3.mono s2))
 have HB3 := As.mk hb3
 have s3 := B3.out.size
 clear h3 b3 H2 B2 hb3
 go_wp2_with fail
 refine (neww_a w3).mono ?_
 rintro e w4 ⟨p4, rfl, h4, b4⟩
 have H4 := As.mk h4
 have B4 := As.mk b4
 clear h4 b4
 go_wp2_with fail
 refine (u16_a H4.out 55206 (by omega) (by simp)).mono ?_
 rintro e w5 ⟨rfl, h5, b5⟩
 have H5 := As.mk h5
 have B5 := As.mk (B4.out.trans b5)
 clear h5 b5 H4 B4
 go_wp2_with fail
 refine (u16_a H5.out x.length (by omega) (by rw [List.nil_append, be_len]; omega)).mono ?_
 rintro e w6 ⟨rfl, h6, b6⟩
 have H6 := As.mk h6
 have B6 := As.mk (B5.out.trans b6)
 have HB6 := As.mk (HB3.out.below B6.out (Nat.le_refl _))
 have s6 := B6.out.size
 have HX6 := As.mk ((HX.out.below B3.out (Nat.le_refl _)).below B6.out (Nat.le_refl _))
 clear h6 b6 H5 B5
 go_wp2_with fail
 have eo := of_a HB6.out (by rw [be_len]; omega) c3
 rw [eb] at eo
 refine eo.mono ?_
 rintro e w7 ⟨rfl, rfl⟩
 clear eo
 go_wp2_with fail
 refine (more_a (moreF 0 (be x.length 2)) (moreF_range _ _) HX6.out (by omega) c).mono ?_
 rintro e w7 ⟨rfl, rfl⟩
 go_wp2_with fail
 have hsr := moreF_range (moreF 0 (be x.length 2)) x
 refine (u32_a H6.out (moreF (moreF 0 (be x.length 2)) x) hsr (by rw [List.nil_append, List.length_append, be_len, be_len]; omega)).mono ?_
 rintro e w7 ⟨rfl, h7, b7⟩
 have eH : ([] ++ be 55206 2 ++ be x.length 2 ++ be (moreF (moreF 0 (be x.length 2)) x) 4) = headF x := rfl
 rw [eH] at h7
 have H7 := As.mk h7
 have B7 := As.mk (B6.out.trans b7)
 clear h7 b7 H6 B6 eH hsr HB6
 go_wp2_with fail
 refine (done_a H7.out (by rw [headF_len]; omega) (by rw [headF_len]; omega)).mono ?_
 rintro e w8 ⟨v8, rfl, h8, b8⟩
 rw [headF_len] at h8
 have B8 := As.mk ((B3.out.trans (B7.out.mono s3)).trans (b8.mono (Nat.le_trans s3 B7.out.size)))
 have hw8 := B8.out.size
 obtain ⟨g8, c8, rfl, hc8, hg8, hl8, hn8, hb8⟩ := bytes_own h8 (by omega) (((be_ok _ _).app (be_ok _ _)).app (be_ok _ _))
 have hg8' : W.heap.size ≤ g8 := Nat.le_trans (Nat.le_trans s3 B7.out.size) hg8
 have HO8 : As (w8.ownsRow W.heap.size 5 1 (.slice (some ⟨g8, 0, none⟩) 8 c8) 8 (bv (headF x))) := ⟨by
  obtain ⟨a1, a2⟩ := h8
  refine ⟨a1, ?_⟩
  rcases a2 with a2 | ⟨g', cp, cur, e, b1, b2⟩
  ·exact .inl a2
  ·exact .inr ⟨g', cp, cur, e, by
    injection e with e _ _
    injection e with e
    injection e with e
    omega, b2⟩⟩
 have HX8 := As.mk (HX.out.below B8.out (Nat.le_refl _))
 have hsrc : As (∀ j u, (bv x)[j]? = some u → w8.cell? ((⟨q, o, none⟩ : Addr).add j) = some u) := ⟨fun j u hu => by
  obtain ⟨q', o', e, _, hr⟩ := HX8.out.2 (by intro e; rw [e] at hx0; exact absurd hx0 (by decide))
  injection e with e
  injection e with e1 e2
  subst e1 e2
  rw [Addr.add_mid]
  exact hr j u hu⟩
 clear h8 b8 hb8 H7 B7 HX6 HB3
 go_wp2_with ((at_builtin; refine wpList_append_lies _ rfl _ _ 39 rfl W.heap.size 5 i0 (.int .u8 0) 1 1 Tryz.underlying39 hi0 hz0 hz1 hz2 rfl (by omega) _ _ _ rfl HO8.out ⟨q, o, none⟩ x.length c (bv x) rfl (by rw [bv_len, Nat.mul_one]) hsrc.out (bv_one x) (by omega) (by unfold maxLen; omega) (by omega) hw8 _ rfl ?_))
 intro gg cap' w9 hown9 hgrow9 hat9 hlt9
 have HO9 := As.mk hown9
 have HB9 : As (Below W.heap.size W w9) := ⟨B8.out.grown hgrow9 hw8 (fun k hk => by obtain rfl := ob_eq hk; exact hg8')⟩
 clear hown9 hgrow9 hat9 hlt9
 go_wp2_with fail
 go_ret2
 refine ⟨_, rfl, ?_, HB9.out⟩
 rw [frameF, bv_app]
 exact HO9.out
/-- No frame: noughts, or the end. -/
theorem fget_empty {W : World} {A : Option Addr} {x : List Int} (h : Bytes W A x) (hx : x.length ≤ 1000000) (c at_ : Nat) (hat : at_ = x.length ∨ x[at_]? = some 0) :
  Calls Tryz.prog 105 #[.slice A x.length c, .int .i64 at_] W fun e W' => e = .returned (.tuple #[.slice none 0 0, .int .i64 0, .int .i64 30]) ∧ W = W' := by
 have hl : at_ ≤ x.length := by
  rcases hat with h | h
  ·omega
  ·have := (List.getElem?_eq_some_iff.1 h).1; omega
 by_cases e : at_ = x.length
 ·subst e
  clear hat h
  go_enter Tryz.func105, Tryz.ntmps105
  go_wp2_with fail
  go_ret3
  exact ⟨rfl, rfl⟩
 ·have hc : x[at_]? = some 0 := by rcases hat with h | h; exact absurd h e; exact h
  obtain ⟨q, o, rfl, hq, hr⟩ := h.2 (by intro e; rw [e] at hc; simp at hc)
  have hcc := hr at_ (.int .u8 0) (by rw [bv_get, hc]; rfl)
  have hlt : at_ < x.length := by omega
  have hne : ((at_ : Int) == (x.length : Int)) = false := by simpa using (show ¬ (at_ : Int) = (x.length : Int) by omega)
  clear hat h hr e hc
  go_enter Tryz.func105, Tryz.ntmps105
  go_wp2_with fail
  go_ret3
  exact ⟨rfl, rfl⟩
end Go.Proofs.YthfjhgdiakciaaaGreat.Bl
/- A frame is read (Get). Condition: the bytes read as they are told. -/
namespace Go.Proofs.YthfjhgdiakciaaaGreat.Bl
open Go.RowKit
set_option linter.unusedVariables false
set_option linter.unusedSimpArgs false
set_option maxHeartbeats 4000000 in
set_option maxRecDepth 100000 in
theorem fget_mark {W : World} {q o : Nat} {pre rest : List Int} {m s : Int} {n : Nat} (hm : 256 ≤ m ∧ m < 65536) (hn : n < 65536) (hs : 0 ≤ s ∧ s < 4294967296) (h : Bytes W (some ⟨q, o, none⟩) (pre ++ (be m 2 ++ (be n 2 ++ (be s 4 ++ rest))))) (hx : (pre ++ (be m 2 ++ (be n 2 ++ (be s 4 ++ rest)))).length ≤ 100000) (c : Nat) (hc : (pre ++ (be m 2 ++ (be n 2 ++ (be s 4 ++ rest)))).length ≤ c)
  (hrl : 0 < rest.length) (hmm : ¬ m = 55206) :
  Calls Tryz.prog 105 #[.slice (some ⟨q, o, none⟩) (pre ++ (be m 2 ++ (be n 2 ++ (be s 4 ++ rest)))).length c, .int .i64 pre.length] W fun e W' => e = .returned (.tuple #[.slice none 0 0, .int .i64 0, .int .i64 31]) ∧ Below W.heap.size W W' := by
 obtain ⟨i0, hi0, hz0, hz1, hz2⟩ := info_parts info5
 have hln : (pre ++ (be m 2 ++ (be n 2 ++ (be s 4 ++ rest)))).length = pre.length + 8 + rest.length := by simp [be_len]; omega
 obtain ⟨x, hxe⟩ : ∃ x, x = pre ++ (be m 2 ++ (be n 2 ++ (be s 4 ++ rest))) := ⟨_, rfl⟩
 rw [← hxe] at h hx hc hln ⊢
 obtain ⟨q', o', e, hq, hr⟩ := h.2 (by intro e; rw [e] at hln; simp at hln; omega)
 injection e with e
 injection e with e1 e2
 subst e1 e2
 have hb0 : x[pre.length]? = some (m / 256) := by
  rw [hxe, List.getElem?_append_right (Nat.le_refl _), Nat.sub_self]
  have : be m 2 = [m / 256, m % 256] := by simp [be, List.range_succ]; omega
  rw [this]; rfl
 have hcc := hr pre.length (.int .u8 (m / 256)) (by rw [bv_get, hb0]; rfl)
 have hne : ((m / 256 : Int) == 0) = false := by simpa using (show ¬ m / 256 = 0 by omega)
 have hne2 : ((pre.length : Int) == (x.length : Int)) = false := by simpa using (show ¬ (pre.length : Int) = (x.length : Int) by omega)
 have hmin : min (x.length : Int) ((pre.length : Int) + 8) = (pre.length : Int) + 8 := by omega
 have hcap : ¬ c = pre.length := by omega
 have hp8 : pre.length + 8 ≤ c := by omega
 have hHead : As (Bytes W (some ⟨q, o + pre.length, none⟩) (be m 2 ++ (be n 2 ++ (be s 4 ++ [])))) := ⟨⟨(be_ok _ _).app ((be_ok _ _).app ((be_ok _ _).app (fun y hy => nomatch hy))), fun _ => ⟨q, _, rfl, hq, by
  have := range_take (range_sub hr pre.length) 8
  rw [hxe, bv_app, List.drop_left' (by rw [bv_len]), ← bv_take] at this
  have e : (be m 2 ++ (be n 2 ++ (be s 4 ++ rest))).take 8 = be m 2 ++ (be n 2 ++ (be s 4 ++ [])) := by
   have : be m 2 ++ (be n 2 ++ (be s 4 ++ rest)) = (be m 2 ++ (be n 2 ++ (be s 4 ++ []))) ++ rest := by simp
   rw [this]
   exact List.take_left' (by simp [be_len])
  rw [e] at this
  exact this⟩⟩⟩
 have e8 : (be m 2 ++ (be n 2 ++ (be s 4 ++ []))).length = 8 := by simp [be_len]
 have HNR := newr_a hHead.out (by omega) (by omega) (c - pre.length)
 rw [e8] at HNR
 have HNR := As.mk HNR
 have HR := As.mk hr
 have HXE := As.mk hxe
 have HXB := As.mk h.1
 clear h hr hxe hHead e8 hb0
 generalize hpl : pre.length = pl at *
 have HPL := As.mk hpl
 clear hpl
 go_enter Tryz.func105, Tryz.ntmps105
 go_wp2_with fail
 refine HNR.out.mono ?_
 rintro e w1 ⟨p, gr, rfl, h1, b1⟩
 have H1 := As.mk h1
 have B1 := As.mk b1
 clear h1 b1 HNR
 go_wp2_with fail
 refine (ru16_a m (by omega) H1.out (by simp [be_len])).mono ?_
 rintro e w2 ⟨rfl, h2, b2⟩
 have H2 := As.mk h2
 have B2 := As.mk b2
 clear h2 b2 H1
 go_wp2_with fail
 refine (ru16_a n (by omega) H2.out (by simp [be_len])).mono ?_
 rintro e w3 ⟨rfl, h3, b3⟩
 have H3 := As.mk h3
 have B3 := As.mk (B2.out.trans b3 (fun _ _ h => h))
 clear h3 b3 H2 B2
 go_wp2_with fail
 refine (ru32_a s hs H3.out (by simp)).mono ?_
 rintro e w4 ⟨rfl, h4, b4⟩
 have H4 := As.mk h4
 have B4 := As.mk (B3.out.trans b4 (fun _ _ h => h))
 clear h4 b4 H3 B3
 have hs1 := B1.out.size
 have B5 : As (Below W.heap.size W w4) := ⟨B1.out.trans (B4.out.below hs1 (fun k hk => by obtain ⟨_, _, h⟩ := H4.out; have := h.lo; omega))⟩
 clear B4 B1
 go_wp2_with fail
 refine (rdone_a H4.out).mono ?_
 rintro e w5 ⟨rfl, rfl⟩
 have hm' : (m != 55206) = true := by simpa using hmm
 go_wp2_with fail
 go_ret3
 exact ⟨rfl, B5.out⟩
set_option maxHeartbeats 4000000 in
set_option maxRecDepth 100000 in
theorem fget_sum {W : World} {q o : Nat} {pre rest : List Int} {m s : Int} {n : Nat} (hm : 256 ≤ m ∧ m < 65536) (hn : n < 65536) (hs : 0 ≤ s ∧ s < 4294967296) (h : Bytes W (some ⟨q, o, none⟩) (pre ++ (be m 2 ++ (be n 2 ++ (be s 4 ++ rest))))) (hx : (pre ++ (be m 2 ++ (be n 2 ++ (be s 4 ++ rest)))).length ≤ 100000) (c : Nat) (hc : (pre ++ (be m 2 ++ (be n 2 ++ (be s 4 ++ rest)))).length ≤ c)
  (hrl : 0 < rest.length) (hmm : m = 55206) (hn2 : n ≤ 2000) (hnl : n ≤ rest.length) (hsum : ¬ moreF (moreF 0 (be n 2)) (rest.take n) = s) :
  Calls Tryz.prog 105 #[.slice (some ⟨q, o, none⟩) (pre ++ (be m 2 ++ (be n 2 ++ (be s 4 ++ rest)))).length c, .int .i64 pre.length] W fun e W' => e = .returned (.tuple #[.slice none 0 0, .int .i64 0, .int .i64 31]) ∧ Below W.heap.size W W' := by
 obtain ⟨i0, hi0, hz0, hz1, hz2⟩ := info_parts info5
 have hln : (pre ++ (be m 2 ++ (be n 2 ++ (be s 4 ++ rest)))).length = pre.length + 8 + rest.length := by simp [be_len]; omega
 obtain ⟨x, hxe⟩ : ∃ x, x = pre ++ (be m 2 ++ (be n 2 ++ (be s 4 ++ rest))) := ⟨_, rfl⟩
 rw [← hxe] at h hx hc hln ⊢
 obtain ⟨q', o', e, hq, hr⟩ := h.2 (by intro e; rw [e] at hln; simp at hln; omega)
 injection e with e
 injection e with e1 e2
 subst e1 e2
 have hb0 : x[pre.length]? = some (m / 256) := by
  rw [hxe, List.getElem?_append_right (Nat.le_refl _), Nat.sub_self]
  have : be m 2 = [m / 256, m % 256] := by simp [be, List.range_succ]; omega
  rw [this]; rfl
 have hcc := hr pre.length (.int .u8 (m / 256)) (by rw [bv_get, hb0]; rfl)
 have hne : ((m / 256 : Int) == 0) = false := by simpa using (show ¬ m / 256 = 0 by omega)
 have hne2 : ((pre.length : Int) == (x.length : Int)) = false := by simpa using (show ¬ (pre.length : Int) = (x.length : Int) by omega)
 have hmin : min (x.length : Int) ((pre.length : Int) + 8) = (pre.length : Int) + 8 := by omega
 have hcap : ¬ c = pre.length := by omega
 have hp8 : pre.length + 8 ≤ c := by omega
 have hHead : As (Bytes W (some ⟨q, o + pre.length, none⟩) (be m 2 ++ (be n 2 ++ (be s 4 ++ [])))) := ⟨⟨(be_ok _ _).app ((be_ok _ _).app ((be_ok _ _).app (fun y hy => nomatch hy))), fun _ => ⟨q, _, rfl, hq, by
  have := range_take (range_sub hr pre.length) 8
  rw [hxe, bv_app, List.drop_left' (by rw [bv_len]), ← bv_take] at this
  have e : (be m 2 ++ (be n 2 ++ (be s 4 ++ rest))).take 8 = be m 2 ++ (be n 2 ++ (be s 4 ++ [])) := by
   have : be m 2 ++ (be n 2 ++ (be s 4 ++ rest)) = (be m 2 ++ (be n 2 ++ (be s 4 ++ []))) ++ rest := by simp
   rw [this]
   exact List.take_left' (by simp [be_len])
  rw [e] at this
  exact this⟩⟩⟩
 have e8 : (be m 2 ++ (be n 2 ++ (be s 4 ++ []))).length = 8 := by simp [be_len]
 have HNR := newr_a hHead.out (by omega) (by omega) (c - pre.length)
 rw [e8] at HNR
 have HNR := As.mk HNR
 have HR := As.mk hr
 have HXE := As.mk hxe
 have HXB := As.mk h.1
 clear h hr hxe hHead e8 hb0
 generalize hpl : pre.length = pl at *
 have HPL := As.mk hpl
 clear hpl
 go_enter Tryz.func105, Tryz.ntmps105
 go_wp2_with fail
 refine HNR.out.mono ?_
 rintro e w1 ⟨p, gr, rfl, h1, b1⟩
 have H1 := As.mk h1
 have B1 := As.mk b1
 clear h1 b1 HNR
 go_wp2_with fail
 refine (ru16_a m (by omega) H1.out (by simp [be_len])).mono ?_
 rintro e w2 ⟨rfl, h2, b2⟩
 have H2 := As.mk h2
 have B2 := As.mk b2
 clear h2 b2 H1
 go_wp2_with fail
 refine (ru16_a n (by omega) H2.out (by simp [be_len])).mono ?_
 rintro e w3 ⟨rfl, h3, b3⟩
 have H3 := As.mk h3
 have B3 := As.mk (B2.out.trans b3 (fun _ _ h => h))
 clear h3 b3 H2 B2
 go_wp2_with fail
 refine (ru32_a s hs H3.out (by simp)).mono ?_
 rintro e w4 ⟨rfl, h4, b4⟩
 have H4 := As.mk h4
 have B4 := As.mk (B3.out.trans b4 (fun _ _ h => h))
 clear h4 b4 H3 B3
 have hs1 := B1.out.size
 have B5 : As (Below W.heap.size W w4) := ⟨B1.out.trans (B4.out.below hs1 (fun k hk => by obtain ⟨_, _, h⟩ := H4.out; have := h.lo; omega))⟩
 clear B4 B1
 go_wp2_with fail
 refine (rdone_a H4.out).mono ?_
 rintro e w5 ⟨rfl, rfl⟩
 have hm' : (m != 55206) = false := by simpa using hmm
 have hn0 : (n : Int) ≤ 2000 := by omega
 have hnr : (n : Int) ≤ (x.length : Int) - (pl : Int) - 8 := by omega
 have hSz : As (Bytes w4 (some ⟨q, o + (pl + 2), none⟩) (be n 2)) := ⟨⟨be_ok _ _, fun _ => ⟨q, _, rfl, by have := B5.out.size; omega, by
  have := range_take (range_sub HR.out (pl + 2)) 2
  rw [HXE.out, ← bv_drop, ← bv_take] at this
  have e : ((pre ++ (be m 2 ++ (be n 2 ++ (be s 4 ++ rest)))).drop (pl + 2)).take 2 = be n 2 := by
   have e1 : pre ++ (be m 2 ++ (be n 2 ++ (be s 4 ++ rest))) = (pre ++ be m 2) ++ (be n 2 ++ (be s 4 ++ rest)) := by simp
   rw [e1, List.drop_left' (by rw [List.length_append, be_len, HPL.out])]
   exact List.take_left' (be_len _ _)
  rw [e] at this
  exact range_heap this (B5.out.block q hq)⟩⟩⟩
 have hBo : As (Bytes w4 (some ⟨q, o + (pl + 8), none⟩) (rest.take n)) := ⟨⟨fun y hy => HXB.out y (by rw [HXE.out]; exact List.mem_append_right _ (List.mem_append_right _ (List.mem_append_right _ (List.mem_append_right _ (List.mem_of_mem_take hy))))), fun _ => ⟨q, _, rfl, by have := B5.out.size; omega, by
  have := range_take (range_sub HR.out (pl + 8)) n
  rw [HXE.out, ← bv_drop, ← bv_take] at this
  have e : ((pre ++ (be m 2 ++ (be n 2 ++ (be s 4 ++ rest)))).drop (pl + 8)).take n = rest.take n := by
   have e1 : pre ++ (be m 2 ++ (be n 2 ++ (be s 4 ++ rest))) = (pre ++ (be m 2 ++ (be n 2 ++ be s 4))) ++ rest := by simp
   rw [e1, List.drop_left' (by simp [be_len, HPL.out])]
  rw [e] at this
  exact range_heap this (B5.out.block q hq)⟩⟩⟩
 have hbl : (rest.take n).length = n := by rw [List.length_take]; omega
 generalize hbody : rest.take n = body at *
 have hc2 : ¬ c = pl + 2 := by omega
 go_wp2_with fail
 have eo := of_a hSz.out (by rw [be_len]; omega) (c - (pl + 2))
 rw [be_len] at eo
 refine eo.mono ?_
 rintro e w5 ⟨rfl, rfl⟩
 clear eo
 go_wp2_with fail
 have em := more_a (moreF 0 (be n 2)) (moreF_range _ _) hBo.out (by omega) (c - (pl + 8))
 rw [hbl] at em
 refine em.mono ?_
 rintro e w5 ⟨rfl, rfl⟩
 clear em
 have hsb : (moreF (moreF 0 (be n 2)) body != s) = true := by simpa using hsum
 go_wp2_with fail
 go_ret3
 exact ⟨rfl, B5.out⟩
set_option maxHeartbeats 4000000 in
set_option maxRecDepth 100000 in
theorem fget_ok {W : World} {q o : Nat} {pre rest : List Int} {m s : Int} {n : Nat} (hm : 256 ≤ m ∧ m < 65536) (hn : n < 65536) (hs : 0 ≤ s ∧ s < 4294967296) (h : Bytes W (some ⟨q, o, none⟩) (pre ++ (be m 2 ++ (be n 2 ++ (be s 4 ++ rest))))) (hx : (pre ++ (be m 2 ++ (be n 2 ++ (be s 4 ++ rest)))).length ≤ 100000) (c : Nat) (hc : (pre ++ (be m 2 ++ (be n 2 ++ (be s 4 ++ rest)))).length ≤ c)
  (hrl : 0 < rest.length) (hmm : m = 55206) (hn2 : n ≤ 2000) (hn1 : 0 < n) (hnl : n ≤ rest.length) (hsum : moreF (moreF 0 (be n 2)) (rest.take n) = s) :
  Calls Tryz.prog 105 #[.slice (some ⟨q, o, none⟩) (pre ++ (be m 2 ++ (be n 2 ++ (be s 4 ++ rest)))).length c, .int .i64 pre.length] W fun e W' => ∃ v, e = .returned (.tuple #[v, .int .i64 ((pre.length + 8 + n : Nat) : Int), .int .i64 0]) ∧ W'.ownsRow W.heap.size 5 1 v n (bv (rest.take n)) ∧ Below W.heap.size W W' := by
 obtain ⟨i0, hi0, hz0, hz1, hz2⟩ := info_parts info5
 have hln : (pre ++ (be m 2 ++ (be n 2 ++ (be s 4 ++ rest)))).length = pre.length + 8 + rest.length := by simp [be_len]; omega
 obtain ⟨x, hxe⟩ : ∃ x, x = pre ++ (be m 2 ++ (be n 2 ++ (be s 4 ++ rest))) := ⟨_, rfl⟩
 rw [← hxe] at h hx hc hln ⊢
 obtain ⟨q', o', e, hq, hr⟩ := h.2 (by intro e; rw [e] at hln; simp at hln; omega)
 injection e with e
 injection e with e1 e2
 subst e1 e2
 have hb0 : x[pre.length]? = some (m / 256) := by
  rw [hxe, List.getElem?_append_right (Nat.le_refl _), Nat.sub_self]
  have : be m 2 = [m / 256, m % 256] := by simp [be, List.range_succ]; omega
  rw [this]; rfl
 have hcc := hr pre.length (.int .u8 (m / 256)) (by rw [bv_get, hb0]; rfl)
 have hne : ((m / 256 : Int) == 0) = false := by simpa using (show ¬ m / 256 = 0 by omega)
 have hne2 : ((pre.length : Int) == (x.length : Int)) = false := by simpa using (show ¬ (pre.length : Int) = (x.length : Int) by omega)
 have hmin : min (x.length : Int) ((pre.length : Int) + 8) = (pre.length : Int) + 8 := by omega
 have hcap : ¬ c = pre.length := by omega
 have hp8 : pre.length + 8 ≤ c := by omega
 have hHead : As (Bytes W (some ⟨q, o + pre.length, none⟩) (be m 2 ++ (be n 2 ++ (be s 4 ++ [])))) := ⟨⟨(be_ok _ _).app ((be_ok _ _).app ((be_ok _ _).app (fun y hy => nomatch hy))), fun _ => ⟨q, _, rfl, hq, by
  have := range_take (range_sub hr pre.length) 8
  rw [hxe, bv_app, List.drop_left' (by rw [bv_len]), ← bv_take] at this
  have e : (be m 2 ++ (be n 2 ++ (be s 4 ++ rest))).take 8 = be m 2 ++ (be n 2 ++ (be s 4 ++ [])) := by
   have : be m 2 ++ (be n 2 ++ (be s 4 ++ rest)) = (be m 2 ++ (be n 2 ++ (be s 4 ++ []))) ++ rest := by simp
   rw [this]
   exact List.take_left' (by simp [be_len])
  rw [e] at this
  exact this⟩⟩⟩
 have e8 : (be m 2 ++ (be n 2 ++ (be s 4 ++ []))).length = 8 := by simp [be_len]
 have HNR := newr_a hHead.out (by omega) (by omega) (c - pre.length)
 rw [e8] at HNR
 have HNR := As.mk HNR
 have HR := As.mk hr
 have HXE := As.mk hxe
 have HXB := As.mk h.1
 clear h hr hxe hHead e8 hb0
 generalize hpl : pre.length = pl at *
 have HPL := As.mk hpl
 clear hpl
 go_enter Tryz.func105, Tryz.ntmps105
 go_wp2_with fail
 refine HNR.out.mono ?_
 rintro e w1 ⟨p, gr, rfl, h1, b1⟩
 have H1 := As.mk h1
 have B1 := As.mk b1
 clear h1 b1 HNR
 go_wp2_with fail
 refine (ru16_a m (by omega) H1.out (by simp [be_len])).mono ?_
 rintro e w2 ⟨rfl, h2, b2⟩
 have H2 := As.mk h2
 have B2 := As.mk b2
 clear h2 b2 H1
 go_wp2_with fail
 refine (ru16_a n (by omega) H2.out (by simp [be_len])).mono ?_
 rintro e w3 ⟨rfl, h3, b3⟩
 have H3 := As.mk h3
 have B3 := As.mk (B2.out.trans b3 (fun _ _ h => h))
 clear h3 b3 H2 B2
 go_wp2_with fail
 refine (ru32_a s hs H3.out (by simp)).mono ?_
 rintro e w4 ⟨rfl, h4, b4⟩
 have H4 := As.mk h4
 have B4 := As.mk (B3.out.trans b4 (fun _ _ h => h))
 clear h4 b4 H3 B3
 have hs1 := B1.out.size
 have B5 : As (Below W.heap.size W w4) := ⟨B1.out.trans (B4.out.below hs1 (fun k hk => by obtain ⟨_, _, h⟩ := H4.out; have := h.lo; omega))⟩
 clear B4 B1
 go_wp2_with fail
 refine (rdone_a H4.out).mono ?_
 rintro e w5 ⟨rfl, rfl⟩
 have hm' : (m != 55206) = false := by simpa using hmm
 have hn0 : (n : Int) ≤ 2000 := by omega
 have hnr : (n : Int) ≤ (x.length : Int) - (pl : Int) - 8 := by omega
 have hSz : As (Bytes w4 (some ⟨q, o + (pl + 2), none⟩) (be n 2)) := ⟨⟨be_ok _ _, fun _ => ⟨q, _, rfl, by have := B5.out.size; omega, by
  have := range_take (range_sub HR.out (pl + 2)) 2
  rw [HXE.out, ← bv_drop, ← bv_take] at this
  have e : ((pre ++ (be m 2 ++ (be n 2 ++ (be s 4 ++ rest)))).drop (pl + 2)).take 2 = be n 2 := by
   have e1 : pre ++ (be m 2 ++ (be n 2 ++ (be s 4 ++ rest))) = (pre ++ be m 2) ++ (be n 2 ++ (be s 4 ++ rest)) := by simp
   rw [e1, List.drop_left' (by rw [List.length_append, be_len, HPL.out])]
   exact List.take_left' (be_len _ _)
  rw [e] at this
  exact range_heap this (B5.out.block q hq)⟩⟩⟩
 have hBo : As (Bytes w4 (some ⟨q, o + (pl + 8), none⟩) (rest.take n)) := ⟨⟨fun y hy => HXB.out y (by rw [HXE.out]; exact List.mem_append_right _ (List.mem_append_right _ (List.mem_append_right _ (List.mem_append_right _ (List.mem_of_mem_take hy))))), fun _ => ⟨q, _, rfl, by have := B5.out.size; omega, by
  have := range_take (range_sub HR.out (pl + 8)) n
  rw [HXE.out, ← bv_drop, ← bv_take] at this
  have e : ((pre ++ (be m 2 ++ (be n 2 ++ (be s 4 ++ rest)))).drop (pl + 8)).take n = rest.take n := by
   have e1 : pre ++ (be m 2 ++ (be n 2 ++ (be s 4 ++ rest))) = (pre ++ (be m 2 ++ (be n 2 ++ be s 4))) ++ rest := by simp
   rw [e1, List.drop_left' (by simp [be_len, HPL.out])]
  rw [e] at this
  exact range_heap this (B5.out.block q hq)⟩⟩⟩
 have hbl : (rest.take n).length = n := by rw [List.length_take]; omega
 generalize hbody : rest.take n = body at *
 have hc2 : ¬ c = pl + 2 := by omega
 go_wp2_with fail
 have eo := of_a hSz.out (by rw [be_len]; omega) (c - (pl + 2))
 rw [be_len] at eo
 refine eo.mono ?_
 rintro e w5 ⟨rfl, rfl⟩
 clear eo
 go_wp2_with fail
 have em := more_a (moreF 0 (be n 2)) (moreF_range _ _) hBo.out (by omega) (c - (pl + 8))
 rw [hbl] at em
 refine em.mono ?_
 rintro e w5 ⟨rfl, rfl⟩
 clear em
 have hsb : (moreF (moreF 0 (be n 2)) body != s) = false := by simpa using hsum
 have hsrc : As (∀ j u, (bv body)[j]? = some u → (w4.alloc (.cells #[] 5 (0, 0))).cell? ((⟨q, o + (pl + 8), none⟩ : Addr).add j) = some u) := ⟨fun j u hu => by
  obtain ⟨q', o', e, hq', hr'⟩ := hBo.out.2 (by intro e; rw [e] at hbl; simp at hbl; omega)
  injection e with e
  injection e with e1 e2
  subst e1 e2
  rw [Addr.add_mid, World.cell?_alloc_lt _ _ _ hq']
  exact hr' j u hu⟩
 have hown0 : As ((w4.alloc (.cells #[] 5 (0, 0))).ownsRow w4.heap.size 5 1 (.slice (some ⟨w4.heap.size, 0, none⟩) 0 0) 0 []) := ⟨World.ownsRow_lit w4 #[] 0 (Nat.le_refl _) (Nat.zero_le _) rfl⟩
 clear hSz H4
 go_wp2_with ((at_builtin; refine wpList_append_lies _ rfl _ _ 39 rfl w4.heap.size 5 i0 (.int .u8 0) 1 1 Tryz.underlying39 hi0 hz0 hz1 hz2 rfl (by omega) _ _ _ rfl hown0.out ⟨q, o + (pl + 8), none⟩ n (c - (pl + 8)) (bv body) rfl (by rw [bv_len, hbl, Nat.mul_one]) hsrc.out (bv_one body) (by omega) (by unfold maxLen; omega) (by omega) (by simp) _ rfl ?_))
 intro gg cap' w7 hown7 hgrow7 hat7 hlt7
 have HO7 := As.mk hown7
 have s5 := B5.out.size
 have hB7 : As (Below w4.heap.size w4 w7) := ⟨((Below.refl _ _).alloc (Nat.le_refl _) _).grown hgrow7 (by simp) (fun k hk => Nat.le_of_eq (ob_eq hk))⟩
 clear hown7 hgrow7 hat7 hlt7 hsrc hown0
 go_wp2_with fail
 go_ret3
 refine ⟨.slice (some ⟨gg, 0, none⟩) n cap', ?_, ?_, B5.out.trans (hB7.out.mono s5)⟩
 ·have e : ((pl + 8 + n : Nat) : Int) = (pl : Int) + 8 + (n : Int) := by omega
  rw [e]
  rfl
 ·rw [hbody]
  obtain ⟨a1, a2⟩ := HO7.out
  have e : (0 : Nat) + n = n := by omega
  refine ⟨by simpa using a1, ?_⟩
  rcases a2 with a2 | ⟨g', cp, cur, e, b1, b2⟩
  ·cases a2.1
  ·exact .inr ⟨g', cp, cur, e, by omega, by simpa using b2⟩
end Go.Proofs.YthfjhgdiakciaaaGreat.Bl
/- Frames one behind the other (All). Condition: the bytes are frames, and behind them there are noughts, or a frame that was hurt. -/
namespace Go.Proofs.YthfjhgdiakciaaaGreat.Bl
open Go.RowKit
set_option linter.unusedVariables false
set_option linter.unusedSimpArgs false
inductive Tail : List Int → Prop
 | nil : Tail []
 | zero (r : List Int) : Tail (0 :: r)
 | mark (m s : Int) (n : Nat) (r : List Int) : 256 ≤ m → m < 65536 → ¬ m = 55206 → n < 65536 → 0 ≤ s → s < 4294967296 → 0 < r.length → Tail (be m 2 ++ (be n 2 ++ (be s 4 ++ r)))
 | sum (r : List Int) : 0 < r.length → Tail (be 55206 2 ++ (be (0 : Nat) 2 ++ (be 0 4 ++ r)))
def frames (L : List (List Int)) : List Int := (L.map frameF).flatten
structure BodyOk (x : List Int) : Prop where
 l1 : 0 < x.length
 l2 : x.length ≤ 2000
 ok : ByteOk x
/-- A slice of slices of bytes. -/
def BRow (W : World) (base : Nat) (v : Value) (L : List (List Int)) : Prop :=
 ∃ vs : List Value, W.ownsRow base 39 1 v L.length vs ∧ ∀ (i : Nat) (x : List Int), L[i]? = some x → ∃ g c, vs[i]? = some (Value.slice (some ⟨g, 0, none⟩) x.length c) ∧ W.ownsRow base 5 1 (.slice (some ⟨g, 0, none⟩) x.length c) x.length (bv x)
theorem info39 : (Tryz.prog.info? 39).map (fun i => (i.zero, i.size, i.bytes)) = some (some (.slice none 0 0), 1, 24) := by kernel_rfl
theorem sum_zero : ¬ moreF (moreF 0 (be (0 : Nat) 2)) [] = 0 := by decide +kernel
theorem frames_app (a b : List (List Int)) : frames (a ++ b) = frames a ++ frames b := by unfold frames; rw [List.map_append, List.flatten_append]
theorem frames_split (L : List (List Int)) (i : Nat) (h : i < L.length) : frames L = frames (L.take i) ++ (frameF L[i] ++ frames (L.drop (i + 1))) := by
 have e : L = L.take i ++ L[i] :: L.drop (i + 1) := by rw [List.getElem_cons_drop, List.take_append_drop]
 have e2 : frames L = frames (L.take i ++ L[i] :: L.drop (i + 1)) := congrArg frames e
 rw [e2, frames_app]
 unfold frames
 rw [List.map_cons, List.flatten_cons]
theorem frames_take_len (L : List (List Int)) (i : Nat) (h : i < L.length) : (frames (L.take (i + 1))).length = (frames (L.take i)).length + 8 + L[i].length := by
 have e : L.take (i + 1) = L.take i ++ [L[i]] := by rw [List.take_add_one, List.getElem?_eq_getElem h]; rfl
 rw [e, frames_app, List.length_append]
 have : frames [L[i]] = frameF L[i] := by simp [frames]
 rw [this, frameF_len]
 omega
theorem BRow.app {W W' : World} {base g k c c' : Nat} {v : Value} {L : List (List Int)} {vs : List Value} {x : List Int} (hv : W.ownsRow base 39 1 v L.length vs)
  (h : ∀ (i : Nat) (x : List Int), L[i]? = some x → ∃ g c, vs[i]? = some (Value.slice (some ⟨g, 0, none⟩) x.length c) ∧ W.ownsRow base 5 1 (.slice (some ⟨g, 0, none⟩) x.length c) x.length (bv x))
  (hx : W.ownsRow base 5 1 (.slice (some ⟨k, 0, none⟩) x.length c) x.length (bv x)) (hn : W'.ownsRow base 39 1 (.slice (some ⟨g, 0, none⟩) (L.length + 1) c') (L.length + 1) (vs ++ [Value.slice (some ⟨k, 0, none⟩) x.length c]))
  (hg : W.grownBy W' v.ownBlock) : BRow W' base (.slice (some ⟨g, 0, none⟩) (L.length + 1) c') (L ++ [x]) := by
 have keep : ∀ {q n m : Nat} {z : List Int}, W.ownsRow base 5 1 (.slice (some ⟨q, 0, none⟩) n m) n (bv z) → W'.ownsRow base 5 1 (.slice (some ⟨q, 0, none⟩) n m) n (bv z) := by
  intro q n m z hq
  refine own_keep hq (fun g' hg' hl => hg.block g' hl (fun e => ?_))
  obtain ⟨cur, hc, _⟩ := own_block hq
  obtain rfl := ob_eq hg'
  exact own_ne hv hc (by decide) q e.symm rfl
 refine ⟨vs ++ [Value.slice (some ⟨k, 0, none⟩) x.length c], by rw [List.length_append]; exact hn, fun i y hy => ?_⟩
 have hl : vs.length = L.length := by rw [hv.1, Nat.mul_one]
 by_cases hi : i < L.length
 ·rw [List.getElem?_append_left hi] at hy
  obtain ⟨g1, c1, h1, h2⟩ := h i y hy
  exact ⟨g1, c1, by rw [List.getElem?_append_left (by omega)]; exact h1, keep h2⟩
 ·have hi2 : i = L.length := by
   have := (List.getElem?_eq_some_iff.1 hy).1
   rw [List.length_append] at this
   simp at this
   omega
  subst hi2
  rw [List.getElem?_append_right (Nat.le_refl _), Nat.sub_self] at hy
  obtain rfl : x = y := by simpa using hy
  exact ⟨k, c, by rw [List.getElem?_append_right (by omega), hl, Nat.sub_self]; rfl, keep hx⟩
set_option maxHeartbeats 4000000 in
set_option maxRecDepth 100000 in
theorem fall_a {W : World} {q o : Nat} {L : List (List Int)} {t : List Int} (h : Bytes W (some ⟨q, o, none⟩) (frames L ++ t)) (hL : ∀ x ∈ L, BodyOk x) (ht : Tail t) (hx : (frames L ++ t).length ≤ 100000) (c : Nat) (hc : (frames L ++ t).length ≤ c) :
  Calls Tryz.prog 64 #[.slice (some ⟨q, o, none⟩) (frames L ++ t).length c] W fun e W' => ∃ v a b, e = .returned (.tuple #[v, a, b]) ∧ BRow W' W.heap.size v L ∧ Below W.heap.size W W' := by
 obtain ⟨i0, hi0, hz0, hz1, hz2⟩ := info_parts info39
 have H := As.mk h
 have HT := As.mk ht
 obtain ⟨xl, hxl⟩ : ∃ xl, xl = (frames L ++ t).length := ⟨_, rfl⟩
 have HXL := As.mk hxl
 rw [← hxl] at hx hc ⊢
 clear h ht hxl
 go_enter Tryz.func64, Tryz.ntmps64
 go_wp2_with fail
 go_step3
 go_wp2_with fail
 go_step3
 go_wp2_with fail
 go_loopg [5, 6] L.length (fun gk v5 v6 w' => ∃ (i : Nat) (v : Value), v6 = .int .i64 ((frames (L.take i)).length : Int) ∧ v5 = v ∧ As (BRow w' W.heap.size v (L.take i)) ∧ As (i ≤ L.length) ∧ As (gk = L.length - i) ∧ As (Below W.heap.size W w'))
 case atStart => exact ⟨0, _, rfl, rfl, ⟨[], World.ownsRow_nil _ _ _ _, fun i x h => by simp at h⟩, ⟨Nat.zero_le _⟩, ⟨rfl⟩, ⟨Below.refl _ _⟩⟩
 case round =>
  obtain ⟨i, v, rfl, hv5, HR, HI, HK, HB⟩ := hrel
  have hv5 := hv5.symm
  subst hv5
  have hs := HB.out.size
  have HW := As.mk (H.out.below HB.out (Nat.le_refl _))
  by_cases hlt : i < L.length
  ·have hsp : As (frames L ++ t = frames (L.take i) ++ (be 55206 2 ++ (be (L[i].length : Nat) 2 ++ (be (sumF L[i]) 4 ++ (L[i] ++ (frames (L.drop (i + 1)) ++ t)))))) := ⟨by
    rw [frames_split L i hlt, frameF, headF]
    simp⟩
   have hok := hL L[i] (List.getElem_mem hlt)
   have h1 := HW.out
   rw [hsp.out] at h1
   have hlen := HXL.out
   rw [hsp.out] at hlen
   have HG := fget_ok (m := 55206) (s := sumF L[i]) (n := L[i].length) (by omega) (by have := hok.l2; omega) (moreF_range _ _) h1 (by omega) c (by omega) (by have := hok.l1; simp; omega) rfl hok.l2 hok.l1 (by simp) (by
    rw [List.take_left' rfl]; rfl)
   rw [← hlen, List.take_left' rfl] at HG
   have HG := As.mk HG
   clear h1
   obtain ⟨x, hx'⟩ : ∃ x, x = L[i] := ⟨_, rfl⟩
   have HXI := As.mk hx'
   rw [← hx'] at hok HG
   clear hx'
   have hlen2 := As.mk (frames_take_len L i hlt)
   have HLEN := As.mk hlen
   clear hlen
   generalize hpos : (frames (L.take i)).length = pos at *
   have HPOS := As.mk hpos
   clear hpos
   have hML : (L.take i).length = i := by rw [List.length_take]; omega
   have et : As (L.take (i + 1) = L.take i ++ [x]) := ⟨by rw [List.take_add_one, List.getElem?_eq_getElem hlt, HXI.out]; rfl⟩
   generalize hM : L.take i = M at *
   have HM := As.mk hM
   clear hM
   go_wp2_with fail
   refine HG.out.mono ?_
   rintro e w1 ⟨v1, rfl, h1, b1⟩
   obtain ⟨g1, c1, rfl, hc1, hg1, hl1, hn1, hb1⟩ := bytes_own h1 hok.l1 hok.ok
   have H1 := As.mk h1
   have B1 := As.mk b1
   have HB1 := As.mk (HB.out.trans (b1.mono hs))
   have hs1 := b1.size
   clear h1 b1 hb1
   obtain ⟨vs, hv, hvs⟩ := HR.out
   have HV := As.mk (own_keep (W' := w1) hv (fun g _ hl => B1.out.block g hl))
   have HV1 : As (∀ (j : Nat) (y : List Int), M[j]? = some y → ∃ g c, vs[j]? = some (Value.slice (some ⟨g, 0, none⟩) y.length c) ∧ w1.ownsRow W.heap.size 5 1 (.slice (some ⟨g, 0, none⟩) y.length c) y.length (bv y)) := ⟨fun j y hy => by
    obtain ⟨g2, c2, a1, a2⟩ := hvs j y hy
    exact ⟨g2, c2, a1, own_keep a2 (fun g _ hl => B1.out.block g hl)⟩⟩
   have hin : L.length ≤ 100000 := by
    have := HXL.out
    rw [List.length_append] at this
    have h2 : ∀ (M : List (List Int)), M.length ≤ (frames M).length := fun M => by
     induction M with
     | nil => exact Nat.le_refl _
     | cons a M ih =>
      have : frames (a :: M) = frameF a ++ frames M := by unfold frames; rw [List.map_cons, List.flatten_cons]
      rw [this, List.length_append, frameF_len, List.length_cons]
      omega
    have := h2 L
    omega
   have hli : M.length ≤ 100000 := by omega
   clear hv hvs HR
   have q1 : As ((w1.alloc (.cells #[Value.slice (some ⟨g1, 0, none⟩) x.length c1] 39)).ownsRow W.heap.size 39 1 v M.length vs) := ⟨HV.out.alloc _⟩
   have q2 : ∀ u ∈ [Value.slice (some ⟨g1, 0, none⟩) x.length c1], u.oneCell' = true := fun u hu => by
    have hu : u = Value.slice (some ⟨g1, 0, none⟩) x.length c1 := by simpa using hu
    rw [hu]; rfl
   have q3 : As (∀ j u, [Value.slice (some ⟨g1, 0, none⟩) x.length c1][j]? = some u → (w1.alloc (.cells #[Value.slice (some ⟨g1, 0, none⟩) x.length c1] 39)).cell? ((⟨w1.heap.size, 0, none⟩ : Addr).add j) = some u) := ⟨World.news_of_block (blk_new w1 _)⟩
   go_wp2_with ((at_builtin; refine wpList_append_lies _ rfl _ _ 158 rfl W.heap.size 39 i0 (.slice none 0 0) 1 24 Tryz.underlying158 hi0 hz0 hz1 hz2 rfl (by omega) _ _ _ rfl q1.out ⟨w1.heap.size, 0, none⟩ 1 1 [Value.slice (some ⟨g1, 0, none⟩) x.length c1] rfl rfl q3.out q2 (by omega) (by unfold maxLen; omega) (by omega) (by simp; omega) _ rfl ?_))
   intro gg cap' w7 hown7 hgrow7 hat7 hlt7
   have hsw : W.heap.size ≤ w1.heap.size := Nat.le_trans hs hs1
   have hB7 : As (Below W.heap.size W w7) := ⟨(HB1.out.alloc hsw _).grown hgrow7 (by simp; omega) (fun k hk => (HV.out.lt k hk).1)⟩
   have hR7 : As (BRow w7 W.heap.size (.slice (some ⟨gg, 0, none⟩) (i + 1) cap') (L.take (i + 1))) := ⟨by
    rw [et.out]
    have H1' : w1.ownsRow W.heap.size 5 1 (.slice (some ⟨g1, 0, none⟩) x.length c1) x.length (bv x) := by
     obtain ⟨a1, a2⟩ := H1.out
     refine ⟨a1, ?_⟩
     rcases a2 with a2 | ⟨g', cp, cur, e, b1, b2⟩
     ·exact .inl a2
     ·exact .inr ⟨g', cp, cur, e, by omega, b2⟩
    have hB := BRow.app (c' := cap') (g := gg) q1.out (fun j y hy => by
     obtain ⟨g, c, a1, a2⟩ := HV1.out j y hy
     exact ⟨g, c, a1, a2.alloc _⟩) (H1'.alloc _) (by rw [hML]; exact hown7) hgrow7
    rw [hML] at hB
    exact hB⟩
   clear hown7 hgrow7 hat7 hlt7 q1 q3 H1 HV HV1
   go_wp2_with fail
   go_roundg (L.length - (i + 1))
   case measure => have := HK.out; omega
   case rel => exact ⟨i + 1, _, by rw [hlen2.out, HXI.out]; go_num, rfl, hR7, ⟨by omega⟩, ⟨rfl⟩, hB7⟩
  ·have hi : i = L.length := by have := HI.out; omega
   subst hi
   have eM : L.take L.length = L := List.take_length
   rw [eM] at HR ⊢
   have hxle := HXL.out
   clear HI HK
   have HE : As (∃ n : Int, (n = 30 ∨ n = 31) ∧ Calls Tryz.prog 105 #[.slice (some ⟨q, o, none⟩) xl c, .int .i64 ((frames L).length : Int)] wr fun e W' => e = .returned (.tuple #[.slice none 0 0, .int .i64 0, .int .i64 n]) ∧ Below wr.heap.size wr W') := ⟨by
    have hw := HW.out
    rw [hxle] at hx hc ⊢
    cases HT.out with
    | nil =>
     refine ⟨30, .inl rfl, (fget_empty hw (by omega) c _ (.inl (by simp))).mono ?_⟩
     rintro e w1 ⟨rfl, rfl⟩
     exact ⟨rfl, Below.refl _ _⟩
    | zero r =>
     refine ⟨30, .inl rfl, (fget_empty hw (by omega) c _ (.inr (by rw [List.getElem?_append_right (Nat.le_refl _), Nat.sub_self]; rfl))).mono ?_⟩
     rintro e w1 ⟨rfl, rfl⟩
     exact ⟨rfl, Below.refl _ _⟩
    | mark m s n r h1 h2 h3 h4 h5 h6 h7 => exact ⟨31, .inr rfl, fget_mark ⟨h1, h2⟩ h4 ⟨h5, h6⟩ hw hx c hc h7 h3⟩
    | sum r h1 => exact ⟨31, .inr rfl, fget_sum (m := 55206) (s := 0) (n := 0) (by omega) (by omega) (by omega) hw hx c hc h1 rfl (by omega) (Nat.zero_le _) (by rw [List.take_zero]; exact sum_zero)⟩⟩
   clear hxle
   obtain ⟨n, hn, HE⟩ := HE.out
   have HE := As.mk HE
   generalize hpos : (frames L).length = pos at *
   clear hpos
   rcases hn with rfl | rfl
   ·go_wp2_with fail
    refine HE.out.mono ?_
    rintro e w1 ⟨rfl, b1⟩
    have B1 := As.mk (HB.out.trans (b1.mono hs))
    have HR1 : As (BRow w1 W.heap.size v L) := ⟨by
     obtain ⟨vs, a1, a2⟩ := HR.out
     exact ⟨vs, own_keep a1 (fun g _ hl => b1.block g hl), fun j y hy => by
      obtain ⟨g, c, k1, k2⟩ := a2 j y hy
      exact ⟨g, c, k1, own_keep k2 (fun g _ hl => b1.block g hl)⟩⟩⟩
    clear b1 HE HR
    go_wp2_with fail
    rw [Exit.noGoto_ret]
    go_ret3
    exact ⟨_, _, _, rfl, HR1.out, B1.out⟩
   ·go_wp2_with fail
    refine HE.out.mono ?_
    rintro e w1 ⟨rfl, b1⟩
    have B1 := As.mk (HB.out.trans (b1.mono hs))
    have HR1 : As (BRow w1 W.heap.size v L) := ⟨by
     obtain ⟨vs, a1, a2⟩ := HR.out
     exact ⟨vs, own_keep a1 (fun g _ hl => b1.block g hl), fun j y hy => by
      obtain ⟨g, c, k1, k2⟩ := a2 j y hy
      exact ⟨g, c, k1, own_keep k2 (fun g _ hl => b1.block g hl)⟩⟩⟩
    clear b1 HE HR
    go_wp2_with fail
    rw [Exit.noGoto_ret]
    go_ret3
    exact ⟨_, _, _, rfl, HR1.out, B1.out⟩
end Go.Proofs.YthfjhgdiakciaaaGreat.Bl
/- A block of an image (part). Condition: the image has 1024 bytes. -/
namespace Go.Proofs.YthfjhgdiakciaaaGreat.Bl
open Go.RowKit
set_option linter.unusedVariables false
set_option linter.unusedSimpArgs false
def zeros (n : Nat) : List Int := List.replicate n 0
theorem zeros_len (n : Nat) : (zeros n).length = n := List.length_replicate
theorem zeros_ok (n : Nat) : ByteOk (zeros n) := fun y hy => by rw [(List.mem_replicate.1 hy).2]; omega
theorem zero148 (w : World) : (zeroValue 148).run Tryz.prog w = .ok (.agg (bv zero64).toArray) w := by kernel_rfl
theorem size148 : (Tryz.prog.info? 148).map (·.size) = some 64 := by kernel_rfl
theorem size76 : (Tryz.prog.info? 76).map (·.size) = some 1024 := by kernel_rfl
/-- The block number i of an image. -/
def blkF (x : List Int) (i : Nat) : List Int := (x.drop (i * 64)).take 64
theorem blkF_len {x : List Int} (h : x.length = 1024) {i : Nat} (hi : i < 16) : (blkF x i).length = 64 := by
 unfold blkF; rw [List.length_take, List.length_drop]; omega
theorem blkF_ok {x : List Int} (h : ByteOk x) (i : Nat) : ByteOk (blkF x i) := (h.drop _).take _
theorem len76 : Tryz.prog.arrayLen 76 = 1024 := by kernel_rfl
theorem elem76 : Tryz.prog.elem 76 = 5 := by kernel_rfl
theorem under76 : Tryz.prog.underlying 76 = some (.array (Tryz.prog.arrayLen 76) (Tryz.prog.elem 76)) := by kernel_rfl
theorem sizeOf5 (w : World) : (sizeOf 5).run Tryz.prog w = .ok 1 w := by kernel_rfl
theorem slice76 (b : Nat) (n : Nat) (h : n < 1024) (l : Int) (hl : l = n) (w : World) : (Instr.sliceAt 76 (.pointer (some ⟨b, 0, none⟩)) (some (.int .i64 l)) none none).run Tryz.prog w = .ok (.slice (some ⟨b, n, none⟩) (1024 - n) (1024 - n)) w := by
 subst hl
 rw [run_sliceAt_array_l w 76 ⟨b, 0, none⟩ under76 .i64 n (by omega) (by rw [len76]; omega), len76, elem76, sizeOf5]
 have e : ¬ 1024 = n := by omega
 simp [Result.andThen, slicedAt, e, add0]
theorem part_a {x : List Int} (hx : x.length = 1024) (i : Nat) (hi : i < 16) (W : World) :
  Calls Tryz.prog 95 #[.agg (bv x).toArray, .int .i64 i] W fun e W' => e = .returned (.agg (bv (blkF x i)).toArray) ∧ Below W.heap.size W W' := by
 have hz := zero148
 have hm : IntKind.i64.wrap ((i : Int) * 64) = ((i * 64 : Nat) : Int) := by simp [IntKind.wrap, IntKind.bits, IntKind.signed]; omega
 go_enter Tryz.func95, Tryz.ntmps95
 go_upto_region 2 with fail
 obtain ⟨b0, hb0⟩ : ∃ b0, b0 = W.heap.size := ⟨_, rfl⟩
 have h0 : As ((((W.alloc (.cells (bv x).toArray 76)).alloc (.cells (bv zero64).toArray 148)).alloc (.cells (bv zero64).toArray 148)).heap[b0]? = some (.cells (bv x).toArray 76 (0, 0))) := ⟨by rw [hb0]; exact blk_old (blk_old (blk_new W _) _) _⟩
 have h1 : As ((((W.alloc (.cells (bv x).toArray 76)).alloc (.cells (bv zero64).toArray 148)).alloc (.cells (bv zero64).toArray 148)).heap[b0 + 1]? = some (.cells (bv zero64).toArray 148 (0, 0))) := ⟨by rw [hb0]; exact blk_old (heap_alloc2_new W _ _) _⟩
 have h2 : As ((((W.alloc (.cells (bv x).toArray 76)).alloc (.cells (bv zero64).toArray 148)).alloc (.cells (bv zero64).toArray 148)).heap[b0 + 1 + 1]? = some (.cells (bv zero64).toArray 148 (0, 0))) := ⟨by rw [hb0]; exact alloc3_new W _ _ _⟩
 have hB : As (Below b0 W (((W.alloc (.cells (bv x).toArray 76)).alloc (.cells (bv zero64).toArray 148)).alloc (.cells (bv zero64).toArray 148))) := ⟨by rw [hb0]; exact (((Below.refl _ W).alloc (Nat.le_refl _) _).alloc (by simp) _).alloc (by simp; omega) _⟩
 rw [← hb0]
 generalize (((W.alloc (.cells (bv x).toArray 76)).alloc (.cells (bv zero64).toArray 148)).alloc (.cells (bv zero64).toArray 148)) = w3 at *
 have HB0 := As.mk hb0
 clear hb0
 refine wp_region_plan_held 4 (fun _ => True) [(1, 0), (1, 1), (1, 2), (1, 3), (2, 4)] (by kernel_rfl) (by kernel_rfl) (by kernel_rfl) (by kernel_rfl) (fun _ _ _ _ _ h => h) trivial ?_
 simp only [tagged, List.filterMap_cons, List.filterMap_nil, List.getElem?_toArray, List.getElem?_cons_succ, List.getElem?_cons_zero, Option.map_some]
 iterate 3 (refine wpHeld_sure (fun K hK => ?_); go_simp; refine hK _ ?_; clear hK K)
 have hsl : ∀ w', (Instr.sliceAt 76 (.pointer (some ⟨b0, 0, none⟩)) (some (.int .i64 ((i : Int) * 64))) none none).run Tryz.prog w' = .ok (.slice (some ⟨b0, i * 64, none⟩) (1024 - i * 64) (1024 - i * 64)) w' := fun w' => slice76 b0 (i * 64) (by omega) _ (by omega) w'
 refine wpHeld_sure (fun K hK => ?_); go_simp; refine hK _ ?_; clear hK K hsl
 refine wpHeld_next (fun K hK => ?_)
 rw [if_pos (by rfl)]
 have hr0 : w3.drew.rangeAt b0 0 (bv x) := fun j v hv => by
  rw [Nat.zero_add]
  show w3.cell? ⟨b0, j, none⟩ = _
  rw [blk_cell h0.out, List.getElem?_toArray]
  exact hv
 have hr1 : w3.drew.rangeAt b0 (i * 64) (bv (blkF x i)) := by
  have := range_take (range_sub hr0 (i * 64)) 64
  rw [Nat.zero_add, ← bv_drop, ← bv_take] at this
  exact this
 refine wp_copy_cells (.tmp 6) (.tmp 9) 39 39 rfl 5 Tryz.underlying39 size5 (b0 + 1 + 1) 0 64 64 ⟨b0, i * 64, none⟩ (1024 - i * 64) (1024 - i * 64) rfl rfl (bv (blkF x i)) (by rw [bv_len, blkF_len hx hi]; exact (Nat.min_eq_right (by omega)).symm) (fun j v hv => by rw [Addr.add_mid]; exact hr1 j v hv) (there_block (cs := (bv zero64).toArray) (t := 148) h2.out 0 _ (by rw [bv_len, blkF_len hx hi, List.size_toArray, bv_len, zero64_len]; omega)) (bv_one _) ?_
 refine hK _ _ (fun h => absurd rfl h) ?_
 clear hK K hr0 hr1
 refine wpHeld_nil ?_
 have h3 : As ((w3.drew.setCells (b0 + 1 + 1) 0 (bv (blkF x i))).heap[b0 + 1 + 1]? = some (.cells (bv (blkF x i)).toArray 148 (0, 0))) := ⟨row_over (W := w3.drew) h2.out (by rw [bv_len, blkF_len hx hi, List.size_toArray, bv_len, zero64_len])⟩
 have h4 : As ((w3.drew.setCells (b0 + 1 + 1) 0 (bv (blkF x i))).heap[b0 + 1]? = some (.cells (bv zero64).toArray 148 (0, 0))) := ⟨(setCells_far _ _ _ _ (by omega)).trans h1.out⟩
 have hB4 : As (Below b0 W (w3.drew.setCells (b0 + 1 + 1) 0 (bv (blkF x i)))) := ⟨hB.out.drew.trans (setCells_below _ (by omega))⟩
 have hl : (bv (blkF x i)).length = 64 := by rw [bv_len, blkF_len hx hi]
 have hone := bv_one (blkF x i)
 generalize w3.drew.setCells (b0 + 1 + 1) 0 (bv (blkF x i)) = w4 at *
 generalize hys : bv (blkF x i) = ys at *
 have HYS := As.mk hys
 clear hys
 have hs : (Tryz.prog.info? 148).map (·.size) = some ys.length := by rw [hl]; exact size148
 go_wp2_with (first | (refine wpList_load_row rfl 148 (.tmp 5) rfl (b0 + 1 + 1) rfl 148 _ _ _ h3.out Tryz.underlying148 rfl (by rw [List.size_toArray]; exact hs) ?_) | (refine wpList_store_mid rfl 148 (.tmp 4) (.tmp 11) rfl (b0 + 1) 0 ys.toArray rfl rfl (there_block h4.out 0 _ (by rw [List.size_toArray, List.size_toArray, bv_len, zero64_len]; omega)) (by rw [List.size_toArray]; exact hs) (all_oneCell_toArray hone) ?_))
 refine bodyPost_ret (results_cell_row rfl _ _ (b0 + 1) 148 ys.toArray (0, 0) _ rfl (row_over h4.out (by rw [hl, List.size_toArray, bv_len, zero64_len])) Tryz.underlying148 rfl (by rw [List.size_toArray]; exact hs)) rfl ?_
 rw [HYS.out, ← HB0.out]
 exact ⟨rfl, hB4.out.trans (setCells_below _ (by omega))⟩
end Go.Proofs.YthfjhgdiakciaaaGreat.Bl
