/- Segments in memory; a segment's head (head), a segment without entries (fresh), the end of its first entries (end), the number behind its entries (next). Condition: the segment lies in memory as it is told. -/
import Derived.Test.YthfjhgdiakciaaaGreatM03
import Derived.Test.YthfjhgdiakciaaaGreatM07
namespace Go.Proofs.YthfjhgdiakciaaaGreat.Bl
open Go.RowKit
set_option linter.unusedVariables false
set_option linter.unusedSimpArgs false
/-- The blocks of a slice. -/
def AddrIn (own : Nat → Prop) (A : Option Addr) : Prop := ∀ q o, A = some ⟨q, o, none⟩ → own q
/-- An entry's cells, in memory. -/
def EntAt (W : World) (own : Nat → Prop) (e : Ent) (c : List Value) : Prop :=
 ∃ ak ck ad cd, c = entC e ak ck ad cd ∧ Bytes W ak e.key ∧ Bytes W ad e.data ∧ e.key.length ≤ ck ∧ e.data.length ≤ cd ∧ (e.key ≠ [] → AddrIn own ak) ∧ (e.data ≠ [] → AddrIn own ad)
/-- A slice of entries. -/
def EntRow (W : World) (own : Nat → Prop) (v : Value) (l : List Ent) : Prop :=
 ∃ cs : List (List Value), cs.length = l.length ∧ W.ownsRow 0 41 11 v l.length cs.flatten ∧ (∀ g, v.ownBlock = some g → own g) ∧ ∀ (i : Nat) (e : Ent), l[i]? = some e → ∃ c, cs[i]? = some c ∧ EntAt W (fun k => own k ∧ ¬ v.ownBlock = some k) e c
theorem EntAt.keep {W W' : World} {own : Nat → Prop} {e : Ent} {c : List Value} (h : EntAt W own e c) (hk : ∀ k, own k → k < W.heap.size → W'.heap[k]? = W.heap[k]?) (hs : W.heap.size ≤ W'.heap.size) : EntAt W' own e c := by
 obtain ⟨ak, ck, ad, cd, h1, h2, h3, h4, h5, h6, h7⟩ := h
 refine ⟨ak, ck, ad, cd, h1, ?_, ?_, h4, h5, h6, h7⟩
 ·by_cases e : e.key = []
  ·rw [e]; exact ⟨(fun y hy => nomatch hy), fun h => absurd rfl h⟩
  ·exact h2.keep (fun q o ha hq => hk q (h6 e q o ha) hq) hs
 ·by_cases e : e.data = []
  ·rw [e]; exact ⟨(fun y hy => nomatch hy), fun h => absurd rfl h⟩
  ·exact h3.keep (fun q o ha hq => hk q (h7 e q o ha) hq) hs
theorem EntAt.mono {W : World} {own own' : Nat → Prop} {e : Ent} {c : List Value} (h : EntAt W own e c) (hs : ∀ k, own k → k < W.heap.size → own' k) : EntAt W own' e c := by
 obtain ⟨ak, ck, ad, cd, h1, h2, h3, h4, h5, h6, h7⟩ := h
 refine ⟨ak, ck, ad, cd, h1, h2, h3, h4, h5, fun hn q o ha => ?_, fun hn q o ha => ?_⟩
 ·obtain ⟨q', o', e1, e2, _⟩ := h2.2 hn
  have : q = q' := by rw [ha] at e1; injection e1 with e1; injection e1
  exact hs q (h6 hn q o ha) (by omega)
 ·obtain ⟨q', o', e1, e2, _⟩ := h3.2 hn
  have : q = q' := by rw [ha] at e1; injection e1 with e1; injection e1
  exact hs q (h7 hn q o ha) (by omega)
theorem EntRow.keep {W W' : World} {own : Nat → Prop} {v : Value} {l : List Ent} (h : EntRow W own v l) (hk : ∀ k, own k → k < W.heap.size → W'.heap[k]? = W.heap[k]?) (hs : W.heap.size ≤ W'.heap.size) : EntRow W' own v l := by
 obtain ⟨cs, h1, h2, h3, h4⟩ := h
 refine ⟨cs, h1, own_keep h2 (fun g hg hl => hk g (h3 g hg) hl), h3, fun i e he => ?_⟩
 obtain ⟨c, a, b⟩ := h4 i e he
 exact ⟨c, a, b.keep (fun k hk' hl => hk k hk'.1 hl) hs⟩
theorem EntRow.mono {W : World} {own own' : Nat → Prop} {v : Value} {l : List Ent} (h : EntRow W own v l) (hs : ∀ k, own k → k < W.heap.size → own' k) : EntRow W own' v l := by
 obtain ⟨cs, h1, h2, h3, h4⟩ := h
 refine ⟨cs, h1, h2, fun g hg => hs g (h3 g hg) (own_lt h2 g hg), fun i e he => ?_⟩
 obtain ⟨c, a, b⟩ := h4 i e he
 exact ⟨c, a, b.mono (fun k hk' hl => ⟨hs k hk'.1 hl, hk'.2⟩)⟩
theorem EntRow.nil (W : World) (own : Nat → Prop) : EntRow W own (.slice none 0 0) [] := ⟨[], rfl, World.ownsRow_nil _ _ _ _, fun g hg => by simp [Value.ownBlock] at hg, fun i e he => by simp at he⟩
/-- A segment: its number, its head's number, its entries. -/
structure Seg where
 no : Nat
 first : Nat
 l : List Ent
/-- A segment's cells. -/
def segC (no first : Nat) (img : List Int) (ve vl : Value) : List Value := .int .u32 no :: .int .u64 first :: (bv img ++ [ve, vl])
theorem segC_len (no first : Nat) {img : List Int} (h : img.length = 1024) (ve vl : Value) : (segC no first img ve vl).length = 1028 := by simp [segC, bv_len, h]
def endV (n : Nat) : Value := .int .i64 (n : Int)
structure SegAt (W : World) (own : Nat → Prop) (p : Nat) (s : Seg) (img : List Int) (ends : List Nat) (ve vl : Value) : Prop where
 blk : W.heap[p]? = some (.cells (segC s.no s.first img ve vl).toArray 141 (0, 0))
 il : img.length = 1024
 iok : ByteOk img
 ends : W.ownsRow 0 3 1 ve ends.length (ends.map endV)
 eo : ∀ g, ve.ownBlock = some g → own g
 l : EntRow W (fun k => own k ∧ k ≠ p ∧ ¬ ve.ownBlock = some k) vl s.l
 po : own p
theorem segC_0 (no first : Nat) (img : List Int) (ve vl : Value) : (segC no first img ve vl)[0]? = some (.int .u32 no) := rfl
theorem segC_1 (no first : Nat) (img : List Int) (ve vl : Value) : (segC no first img ve vl)[1]? = some (.int .u64 first) := rfl
theorem segC_img (no first : Nat) (img : List Int) (ve vl : Value) (j : Nat) (h : j < img.length) : (segC no first img ve vl)[2 + j]? = (bv img)[j]? := by
 show (.int .u32 no :: .int .u64 first :: (bv img ++ [ve, vl]))[2 + j]? = _
 rw [show 2 + j = (j + 1) + 1 by omega, List.getElem?_cons_succ, List.getElem?_cons_succ, List.getElem?_append_left (by rw [bv_len]; exact h)]
theorem segC_3 (no first : Nat) {img : List Int} (h : img.length = 1024) (ve vl : Value) : (segC no first img ve vl)[1026]? = some ve := by
 show (.int .u32 no :: .int .u64 first :: (bv img ++ [ve, vl]))[1024 + 1 + 1]? = _
 rw [List.getElem?_cons_succ, List.getElem?_cons_succ, List.getElem?_append_right (by rw [bv_len, h]; exact Nat.le_refl _), bv_len, h]
 rfl
theorem segC_4 (no first : Nat) {img : List Int} (h : img.length = 1024) (ve vl : Value) : (segC no first img ve vl)[1027]? = some vl := by
 show (.int .u32 no :: .int .u64 first :: (bv img ++ [ve, vl]))[1025 + 1 + 1]? = _
 rw [List.getElem?_cons_succ, List.getElem?_cons_succ, List.getElem?_append_right (by rw [bv_len, h]; omega), bv_len, h]
 rfl
section
variable {W : World} {own : Nat → Prop} {p : Nat} {s : Seg} {img : List Int} {ends : List Nat} {ve vl : Value}
theorem SegAt.cells (h : SegAt W own p s img ends ve vl) : W.cell? ⟨p, 0, none⟩ = some (.int .u32 s.no) ∧ W.cell? ⟨p, 1, none⟩ = some (.int .u64 s.first) ∧ W.cell? ⟨p, 1026, none⟩ = some ve ∧ W.cell? ⟨p, 1027, none⟩ = some vl := by
 refine ⟨?_, ?_, ?_, ?_⟩ <;> rw [blk_cell h.blk, List.getElem?_toArray]
 ·exact segC_0 ..
 ·exact segC_1 ..
 ·exact segC_3 _ _ h.il _ _
 ·exact segC_4 _ _ h.il _ _
theorem SegAt.img_range (h : SegAt W own p s img ends ve vl) : W.rangeAt p 2 (bv img) := fun j v hv => by
 have hj : j < img.length := by have := (List.getElem?_eq_some_iff.1 hv).1; rwa [bv_len] at this
 rw [blk_cell h.blk, List.getElem?_toArray, segC_img _ _ _ _ _ _ hj]
 exact hv
theorem SegAt.lt (h : SegAt W own p s img ends ve vl) : p < W.heap.size := blk_lt h.blk
theorem SegAt.keep {W' : World} (h : SegAt W own p s img ends ve vl) (hk : ∀ k, own k → k < W.heap.size → W'.heap[k]? = W.heap[k]?) (hs : W.heap.size ≤ W'.heap.size) : SegAt W' own p s img ends ve vl :=
 ⟨(hk p h.po h.lt).trans h.blk, h.il, h.iok, own_keep h.ends (fun g hg hl => hk g (h.eo g hg) hl), h.eo, h.l.keep (fun k hk' hlk => hk k hk'.1 hlk) hs, h.po⟩
theorem SegAt.mono {own' : Nat → Prop} (h : SegAt W own p s img ends ve vl) (hs : ∀ k, own k → k < W.heap.size → own' k) : SegAt W own' p s img ends ve vl :=
 ⟨h.blk, h.il, h.iok, h.ends, fun g hg => hs g (h.eo g hg) (own_lt h.ends g hg), h.l.mono (fun k hk hlk => ⟨hs k hk.1 hlk, hk.2⟩), hs p h.po h.lt⟩
end
/-- The head's body. -/
def hdr (no first : Nat) : List Int := be 83 1 ++ be no 4 ++ be first 8
theorem hdr_len (no first : Nat) : (hdr no first).length = 13 := by simp [hdr, be_len]
theorem hdr_ok (no first : Nat) : ByteOk (hdr no first) := ((be_ok _ _).app (be_ok _ _)).app (be_ok _ _)
theorem head_a (no first : Nat) (hn : no < 4294967296) (hf : first < 18446744073709551616) (W : World) :
  Calls Tryz.prog 107 #[.int .u32 no, .int .u64 first] W fun e W' => ∃ g c, e = .returned (.slice (some ⟨g, 0, none⟩) 21 c) ∧ 21 ≤ c ∧ W.heap.size ≤ g ∧ g < W'.heap.size ∧ Bytes W' (some ⟨g, 0, none⟩) (frameF (hdr no first)) ∧ Below W.heap.size W W' := by
 go_enter Tryz.func107, Tryz.ntmps107
 go_wp2_with fail
 refine (neww_a W).mono ?_
 rintro e w1 ⟨p, rfl, q1, q2⟩
 have H := As.mk q1
 have B := As.mk q2
 clear q1 q2
 go_wp2_with fail
 refine (u8_a H.out 83 (by omega) (by simp)).mono ?_
 rintro e w2 ⟨rfl, q1, q2⟩
 have H := As.mk q1
 have B := As.mk (B.out.trans q2)
 clear q1 q2
 go_wp2_with fail
 refine (u32_a H.out no (by omega) (by simp [be_len])).mono ?_
 rintro e w3 ⟨rfl, q1, q2⟩
 have H := As.mk q1
 have B := As.mk (B.out.trans q2)
 clear q1 q2
 go_wp2_with fail
 refine (u64_a H.out first (by omega) (by simp [be_len])).mono ?_
 rintro e w4 ⟨rfl, q1, q2⟩
 have eh : [] ++ be 83 1 ++ be no 4 ++ be first 8 = hdr no first := rfl
 rw [eh] at q1
 have H := As.mk q1
 have B := As.mk (B.out.trans q2)
 clear q1 q2 eh
 go_wp2_with fail
 refine (done_a H.out (by rw [hdr_len]; omega) (by rw [hdr_len]; omega)).mono ?_
 rintro e w5 ⟨v, rfl, q1, q2⟩
 rw [hdr_len] at q1
 obtain ⟨g5, c5, rfl, hc5, hg5, hl5, hn5, hb5⟩ := bytes_own q1 (by omega) (hdr_ok _ _)
 have s4 := B.out.size
 have HB := As.mk hb5
 have B := As.mk (B.out.trans (q2.mono s4))
 clear q1 q2 hb5
 go_wp2_with fail
 have hf := fput_a HB.out hl5 (by rw [hdr_len]; omega) (by rw [hdr_len]; omega) c5
 rw [hdr_len] at hf
 refine hf.mono ?_
 rintro e w6 ⟨v6, rfl, q1, q2⟩
 obtain ⟨g6, c6, rfl, hc6, hg6, hl6, hn6, hb6⟩ := bytes_own q1 (by omega) (frameF_ok (hdr_ok _ _))
 have s5 := B.out.size
 have HB6 := As.mk hb6
 have B := As.mk (B.out.trans (q2.mono s5))
 clear q1 q2 hb6 hf
 go_wp2_with fail
 go_ret
 exact ⟨g6, c6, rfl, hc6, by omega, hl6, HB6.out, B.out⟩
theorem end_a {W : World} {own : Nat → Prop} {p : Nat} {s : Seg} {img : List Int} {ends : List Nat} {ve vl : Value} (h : SegAt W own p s img ends ve vl) (i : Nat) (n : Nat) (hn : ends[i]? = some n) (hl : ends.length < 1000000) :
  Calls Tryz.prog 49 #[.pointer (some ⟨p, 0, none⟩), .int .i64 i] W fun e W' => e = .returned (.int .i64 n) ∧ W = W' := by
 have hi := (List.getElem?_eq_some_iff.1 hn).1
 obtain ⟨g, c, rfl, _, hgl⟩ := h.ends.form (by omega)
 obtain ⟨_, _, c3, _⟩ := h.cells
 have hcell : W.cell? ⟨g, i, none⟩ = some (.int .i64 n) := by
  rw [h.ends.cellAt i (by omega), List.getElem?_map, hn]
  rfl
 clear h hn
 go_enter Tryz.func49, Tryz.ntmps49
 go_wp2_with fail
 go_ret
 exact ⟨rfl, rfl⟩
theorem next_a {W : World} {own : Nat → Prop} {p : Nat} {s : Seg} {img : List Int} {ends : List Nat} {ve vl : Value} (h : SegAt W own p s img ends ve vl) (hf : s.first < 1000000) (hl : s.l.length < 1000000) :
  Calls Tryz.prog 35 #[.pointer (some ⟨p, 0, none⟩)] W fun e W' => e = .returned (.int .u64 ((s.first + s.l.length : Nat) : Int)) ∧ Below W.heap.size W W' := by
 obtain ⟨_, c1, _, c4⟩ := h.cells
 obtain ⟨cs, _, hrow, _⟩ := h.l
 obtain ⟨A, c, rfl⟩ : ∃ A c, vl = .slice A s.l.length c := by
  rcases hrow.2 with ⟨hv, h0⟩ | ⟨g, cap, _, hv, _⟩
  ·rw [h0]; exact ⟨_, _, hv⟩
  ·exact ⟨_, _, hv⟩
 clear h hrow
 have hw : IntKind.u64.wrap ((s.first : Int) + (s.l.length : Int)) = ((s.first + s.l.length : Nat) : Int) := by simp [IntKind.wrap, IntKind.bits, IntKind.signed]; omega
 go_enter Tryz.func35, Tryz.ntmps35
 go_wp2_with fail
 go_region
 go_wp2_with fail
 go_ret
 refine ⟨?_, (Below.refl _ _).drew⟩
 have e : ((s.first + s.l.length : Nat) : Int) = (s.first : Int) + (s.l.length : Int) := by omega
 rw [e]
 rfl
theorem putAt_splice (xs vs : List Value) (o : Nat) (h : o + vs.length ≤ xs.length) : putAt xs o vs = xs.take o ++ (vs ++ xs.drop (o + vs.length)) := by
 apply List.ext_getElem?
 intro j
 rw [putAt_get]
 have hto : (xs.take o).length = o := by rw [List.length_take]; omega
 by_cases h1 : j < o
 ·rw [if_neg (by omega), List.getElem?_append_left (by omega), List.getElem?_take, if_pos h1]
 ·rw [List.getElem?_append_right (by omega), hto]
  by_cases h2 : j < o + vs.length
  ·rw [if_pos (by omega), List.getElem?_append_left (by omega)]
  ·rw [if_neg (by omega), List.getElem?_append_right (by omega), List.getElem?_drop]
   congr 1
   omega
/-- Bytes laid over an image. -/
def putI (img : List Int) (o : Nat) (x : List Int) : List Int := img.take o ++ (x ++ img.drop (o + x.length))
theorem putI_len (img : List Int) (o : Nat) (x : List Int) (h : o + x.length ≤ img.length) : (putI img o x).length = img.length := by
 unfold putI; rw [List.length_append, List.length_append, List.length_take, List.length_drop]; omega
theorem putI_ok {img x : List Int} (o : Nat) (h : ByteOk img) (hx : ByteOk x) : ByteOk (putI img o x) := (h.take _).app (hx.app (h.drop _))
theorem putI_0 (img x : List Int) : putI img 0 x = over img x := by unfold putI over; simp
theorem putAt_bv (img x : List Int) (o : Nat) (h : o + x.length ≤ img.length) : putAt (bv img) o (bv x) = bv (putI img o x) := by
 rw [putAt_splice _ _ _ (by rw [bv_len, bv_len]; exact h), bv_len, putI, bv_app, bv_app, bv_take, bv_drop]
theorem segC_put (no first : Nat) (img x : List Int) (ve vl : Value) (o : Nat) (h : o + x.length ≤ img.length) : putAt (segC no first img ve vl) (2 + o) (bv x) = segC no first (putI img o x) ve vl := by
 rw [putAt_splice _ _ _ (by rw [bv_len]; simp [segC, bv_len]; omega), bv_len]
 have e1 : (segC no first img ve vl).take (2 + o) = .int .u32 no :: .int .u64 first :: bv (img.take o) := by
  show (.int .u32 no :: .int .u64 first :: (bv img ++ [ve, vl])).take (2 + o) = _
  rw [show 2 + o = (o + 1) + 1 by omega, List.take_succ_cons, List.take_succ_cons, List.take_append_of_le_length (by rw [bv_len]; omega), bv_take]
 have e2 : (segC no first img ve vl).drop (2 + o + x.length) = bv (img.drop (o + x.length)) ++ [ve, vl] := by
  show (.int .u32 no :: .int .u64 first :: (bv img ++ [ve, vl])).drop (2 + o + x.length) = _
  rw [show 2 + o + x.length = ((o + x.length) + 1) + 1 by omega, List.drop_succ_cons, List.drop_succ_cons, List.drop_append_of_le_length (by rw [bv_len]; omega), bv_drop]
 rw [e1, e2, segC, putI, bv_app, bv_app]
 simp
theorem segC_ends (no first : Nat) {img : List Int} (h : img.length = 1024) (ve vl u : Value) : (segC no first img ve vl).toArray.setIfInBounds 1026 u = (segC no first img u vl).toArray := by
 rw [List.setIfInBounds_toArray]
 congr 1
 show (.int .u32 no :: .int .u64 first :: (bv img ++ [ve, vl])).set (1024 + 1 + 1) u = _
 rw [List.set_cons_succ, List.set_cons_succ, List.set_append_right _ _ (by rw [bv_len, h]; exact Nat.le_refl _), bv_len, h]
 rfl
theorem segC_l (no first : Nat) {img : List Int} (h : img.length = 1024) (ve vl u : Value) : (segC no first img ve vl).toArray.setIfInBounds 1027 u = (segC no first img ve u).toArray := by
 rw [List.setIfInBounds_toArray]
 congr 1
 show (.int .u32 no :: .int .u64 first :: (bv img ++ [ve, vl])).set (1025 + 1 + 1) u = _
 rw [List.set_cons_succ, List.set_cons_succ, List.set_append_right _ _ (by rw [bv_len, h]; omega), bv_len, h]
 rfl
set_option maxRecDepth 100000 in
theorem zero141 (no first : Nat) : (Tryz.zeroCells141.setIfInBounds 0 (Value.int .u32 no)).setIfInBounds 1 (Value.int .u64 first) = (segC no first (zeros 1024) (.slice none 0 0) (.slice none 0 0)).toArray := by kernel_rfl
theorem info3 : (Tryz.prog.info? 3).map (fun i => (i.zero, i.size, i.bytes)) = some (some (.int .i64 0), 1, 8) := by kernel_rfl
/-- The image of a segment without entries. -/
def img0 (no first : Nat) : List Int := over (zeros 1024) (frameF (hdr no first))
theorem img0_len (no first : Nat) : (img0 no first).length = 1024 := by
 unfold img0; rw [over_len _ _ (by rw [frameF_len, hdr_len, zeros_len]; omega), zeros_len]
set_option maxHeartbeats 4000000 in
set_option maxRecDepth 100000 in
theorem fresh_a (no first : Nat) (hn : no < 4294967296) (hf : first < 18446744073709551616) (W : World) :
  Calls Tryz.prog 70 #[.int .u32 no, .int .u64 first] W fun e W' => ∃ p, e = .returned (.pointer (some ⟨p, 0, none⟩)) ∧ (∃ ve, SegAt W' (fun k => W.heap.size ≤ k ∧ k < W'.heap.size) p ⟨no, first, []⟩ (img0 no first) [21] ve (.slice none 0 0)) ∧ Below W.heap.size W W' := by
 go_enter Tryz.func70, Tryz.ntmps70
 go_upto_region 2 with fail
 rw [zero141 no first]
 obtain ⟨p, hp⟩ : ∃ p, p = W.heap.size := ⟨_, rfl⟩
 have h0 : As ((W.alloc (.cells (segC no first (zeros 1024) (.slice none 0 0) (.slice none 0 0)).toArray 141)).heap[p]? = some (.cells (segC no first (zeros 1024) (.slice none 0 0) (.slice none 0 0)).toArray 141 (0, 0))) := ⟨by rw [hp]; exact blk_new W _⟩
 have hB : As (Below p W (W.alloc (.cells (segC no first (zeros 1024) (.slice none 0 0) (.slice none 0 0)).toArray 141))) := ⟨by rw [hp]; exact (Below.refl _ W).alloc (Nat.le_refl _) _⟩
 rw [← hp]
 generalize W.alloc (.cells (segC no first (zeros 1024) (.slice none 0 0) (.slice none 0 0)).toArray 141) = w1 at *
 have HP := As.mk hp
 have hp1 := blk_lt h0.out
 clear hp
 refine wp_region_plan_kept (fun _ => True) [(1, 0), (1, 1), (1, 2), (1, 3), (1, 4), (1, 5), (1, 6), (2, 7), (2, 8), (2, 9), (1, 10), (1, 11), (2, 12)] (by kernel_rfl) (by kernel_rfl) (by kernel_rfl) (by kernel_rfl) (fun _ _ _ _ _ h => h) trivial ?_
 simp only [tagged, List.filterMap_cons, List.filterMap_nil, List.getElem?_toArray, List.getElem?_cons_succ, List.getElem?_cons_zero, Option.map_some]
 iterate 7 (refine wpKept_sure (fun K hK => ?_); go_simp; refine hK _ ?_; clear hK K)
 refine wpKept_next (fun K hK => ?_)
 go_simp
 refine (head_a no first hn hf _).mono ?_
 rintro e w2 ⟨g, c, rfl, hc, hg, hg2, q1, q2⟩
 have hb1 : Below w1.heap.size w1 w2 := (Below.refl w1.heap.size w1).drew.trans q2
 have h2 : As (w2.heap[p]? = some (.cells (segC no first (zeros 1024) (.slice none 0 0) (.slice none 0 0)).toArray 141 (0, 0))) := ⟨(hb1.block p hp1).trans h0.out⟩
 have HB2 := As.mk q1
 have B2 := As.mk (hB.out.trans (hb1.mono (by omega)))
 have hp2 : p < w2.heap.size := blk_lt h2.out
 clear q1 q2 hb1 h0 hB
 refine hK _ _ trivial ?_
 clear hK K
 refine wpKept_next (fun K hK => ?_)
 rw [if_pos (by rfl)]
 have hfl : (frameF (hdr no first)).length = 21 := by rw [frameF_len, hdr_len]
 obtain ⟨q', o', e, hq', hr'⟩ := HB2.out.2 (by intro e; rw [e] at hfl; cases hfl)
 injection e with e
 injection e with e1 e2
 subst e1 e2
 refine wp_copy_cells (.tmp 14) (.tmp 17) 39 39 rfl 5 Tryz.underlying39 size5 p 2 1024 1024 ⟨g, 0, none⟩ 21 c rfl rfl (bv (frameF (hdr no first))) (by rw [bv_len, hfl]; exact (Nat.min_eq_left (by omega)).symm) (fun j v hv => by rw [Addr.add_mid]; exact hr' j v hv) (there_block h2.out 2 _ (by rw [bv_len, hfl, List.size_toArray, segC_len _ _ (zeros_len _)]; omega)) (bv_one _) ?_
 rw [bv_len, hfl]
 have h3 : As ((w2.setCells p 2 (bv (frameF (hdr no first)))).heap[p]? = some (.cells (segC no first (img0 no first) (.slice none 0 0) (.slice none 0 0)).toArray 141 (0, 0))) := ⟨by
  rw [setCells_same (bv (frameF (hdr no first))) p 2 w2 _ h2.out, segC_put no first (zeros 1024) (frameF (hdr no first)) _ _ 0 (by rw [hfl, zeros_len]; omega), putI_0]
  rfl⟩
 have B3 := As.mk (B2.out.trans (setCells_below (b := p) (o := 2) (B := p) (W := w2) (bv (frameF (hdr no first))) (Nat.le_refl _)))
 have hp3 : p < (w2.setCells p 2 (bv (frameF (hdr no first)))).heap.size := blk_lt h3.out
 generalize w2.setCells p 2 (bv (frameF (hdr no first))) = w3 at *
 clear h2 B2 hr' HB2
 refine hK _ _ trivial ?_
 clear hK K
 refine wpKept_next (fun K hK => ?_)
 go_simp
 have h4 : As ((w3.alloc (.cells #[.int .i64 21] 3)).heap[p]? = some (.cells (segC no first (img0 no first) (.slice none 0 0) (.slice none 0 0)).toArray 141 (0, 0))) := ⟨blk_old h3.out _⟩
 have hE : As ((w3.alloc (.cells #[.int .i64 21] 3)).ownsRow 0 3 1 (.slice (some ⟨w3.heap.size, 0, none⟩) 1 1) 1 [.int .i64 21]) := ⟨World.ownsRow_lit w3 #[.int .i64 21] 1 (Nat.zero_le _) (by unfold maxLen; omega) rfl⟩
 have B4 := As.mk (B3.out.alloc (by have := B3.out.size; omega) (.cells #[.int .i64 21] 3))
 have hs4 : (w3.alloc (.cells #[.int .i64 21] 3)).heap.size = w3.heap.size + 1 := by simp
 generalize w3.alloc (.cells #[.int .i64 21] 3) = w4 at *
 obtain ⟨e0, he0⟩ : ∃ e0, e0 = w3.heap.size := ⟨_, rfl⟩
 rw [← he0] at hE hs4 hp3 ⊢
 have hil := img0_len no first
 have c3 : w4.cell? ⟨p, 1026, none⟩ = some (.slice none 0 0) := by rw [blk_cell h4.out, List.getElem?_toArray]; exact segC_3 _ _ hil _ _
 have f3 := blk_frozen h4.out 1026
 have HE0 := As.mk he0
 have HIL := As.mk hil
 clear he0 hil h3 B3
 refine hK _ _ trivial ?_
 clear hK K
 iterate 2 (refine wpKept_sure (fun K hK => ?_); go_simp; refine hK _ ?_; clear hK K)
 refine wpKept_next (fun K hK => ?_)
 go_simp
 refine hK _ _ trivial ?_
 clear hK K
 refine wpKept_nil ?_
 have hfin : As (SegAt (w4.setCell ⟨p, 1026, none⟩ (.slice (some ⟨e0, 0, none⟩) 1 1)) (fun k => p ≤ k ∧ k < w4.heap.size) p ⟨no, first, []⟩ (img0 no first) [21] (.slice (some ⟨e0, 0, none⟩) 1 1) (.slice none 0 0)) := ⟨by
  refine ⟨?_, HIL.out, ?_, ?_, ?_, EntRow.nil _ _, by omega⟩
  ·rw [blk_put h4.out 1026, segC_ends _ _ HIL.out]
  ·rw [img0, over]
   exact (frameF_ok (hdr_ok no first)).app ((zeros_ok 1024).drop _)
  ·exact own_keep hE.out (fun g' hg' _ => Below.heap_setCell _ _ _ _ (show g' ≠ p by have := ob_eq hg'; omega))
  ·intro g' hg'
   have := ob_eq hg'
   omega⟩
 have hB5 := As.mk (B4.out.setCell (p := ⟨p, 1026, none⟩) (Nat.le_refl _) (.slice (some ⟨e0, 0, none⟩) 1 1))
 have hs5 : (w4.setCell ⟨p, 1026, none⟩ (.slice (some ⟨e0, 0, none⟩) 1 1)).heap.size = w4.heap.size := by simp
 generalize w4.setCell ⟨p, 1026, none⟩ (.slice (some ⟨e0, 0, none⟩) 1 1) = w5 at *
 clear c3 f3
 go_wp2_with fail
 go_ret
 rw [← HP.out]
 have hfin := hfin.out
 rw [← hs5] at hfin
 exact ⟨p, rfl, ⟨_, hfin⟩, hB5.out⟩
end Go.Proofs.YthfjhgdiakciaaaGreat.Bl
/- A journal's small steps: told, put, sync, state. Condition: the journal and its disk lie in memory, the disk is lit. -/
namespace Go.Proofs.YthfjhgdiakciaaaGreat.Bl
open Go.RowKit
set_option linter.unusedVariables false
set_option linter.unusedSimpArgs false
/-- The journal's own block. -/
def JBlk (W : World) (jb db : Nat) (vs : Value) (safe : Int) : Prop := W.heap[jb]? = some (.cells #[.pointer (some ⟨db, 0, none⟩), .int .i64 32, vs, .int .u64 safe, .bool false] 73 (0, 0))
theorem JBlk.cells {W : World} {jb db : Nat} {vs : Value} {safe : Int} (h : JBlk W jb db vs safe) :
  W.cell? ⟨jb, 0, none⟩ = some (.pointer (some ⟨db, 0, none⟩)) ∧ W.cell? ⟨jb, 1, none⟩ = some (.int .i64 32) ∧ W.cell? ⟨jb, 2, none⟩ = some vs ∧ W.cell? ⟨jb, 3, none⟩ = some (.int .u64 safe) ∧ W.cell? ⟨jb, 4, none⟩ = some (.bool false) :=
 ⟨(blk_cell h 0).trans rfl, (blk_cell h 1).trans rfl, (blk_cell h 2).trans rfl, (blk_cell h 3).trans rfl, (blk_cell h 4).trans rfl⟩
structure LitS (s : St) : Prop where
 dark : s.dark = false
 left : s.left = -1
 limit : s.limit = 512
theorem LitS.act {s : St} (h : LitS s) : actF s = (true, s) := by
 unfold actF
 rw [if_neg (by rw [h.dark]; decide), if_neg (by rw [h.left]; decide), if_neg (by rw [h.left]; decide)]
/-- A block is written. -/
def wrS (s : St) (k : Nat) (x : List Int) : St := { s with now := s.now.set k x, wait := s.wait ++ [⟨k, x⟩] }
/-- The disk is flushed. -/
def flS (s : St) : St := { s with sure := s.now, wait := [] }
theorem LitS.wr {s : St} (h : LitS s) (k : Nat) (x : List Int) : LitS (wrS s k x) := ⟨h.dark, h.left, h.limit⟩
theorem LitS.fl {s : St} (h : LitS s) : LitS (flS s) := ⟨h.dark, h.left, h.limit⟩
theorem writeF_lit {s : St} (h : LitS s) (k : Nat) (hk : k < 512) (x : List Int) (hx : x.length = 64) : writeF s 512 k x = (0, wrS s k x) := by
 unfold writeF
 rw [h.act, if_neg (by rw [h.dark]; decide), if_neg (by omega), if_neg (by rw [h.limit]; omega)]
 simp [wrS]
theorem flushF_lit {s : St} (h : LitS s) : flushF s = (0, flS s) := by
 unfold flushF
 rw [h.act]
 simp [flS]
theorem told_a {W : World} {jb db : Nat} {vs : Value} {safe : Int} (h : JBlk W jb db vs safe) (n : Int) (hn : ¬ n = 6) :
  Calls Tryz.prog 98 #[.pointer (some ⟨jb, 0, none⟩), .int .i64 n] W fun e W' => e = .returned (.int .i64 n) ∧ JBlk W' jb db vs safe ∧ Frame (fun k => k = jb) W W' := by
 obtain ⟨_, _, _, _, c4⟩ := h.cells
 have f4 := blk_frozen h 4
 have hn' : (n == 6) = false := by simpa using hn
 have H := As.mk h
 clear h
 go_enter Tryz.func98, Tryz.ntmps98
 go_wp2_with fail
 go_ret
 refine ⟨rfl, ?_, (Frame.refl (fun k => k = jb) W).setCell (p := ⟨jb, 4, none⟩) (.inl rfl) _⟩
 unfold JBlk
 rw [blk_put H.out 4]
 rfl
set_option maxHeartbeats 4000000 in
set_option maxRecDepth 100000 in
theorem put_j {W : World} {OD : Nat → Prop} {jb db : Nat} {vs : Value} {safe : Int} {s : St} (h : JBlk W jb db vs safe) (hd : Disk W OD db 512 s) (hl : LitS s) (hj : ¬ OD jb) (no i : Nat) (hno : no < 32) (hi : i < 16) {A : Option Addr} {x : List Int} (hx : Bytes W A x) (hx64 : x.length = 64) (c : Nat) (hw : s.wait.length < 1000000) :
  Calls Tryz.prog 96 #[.pointer (some ⟨jb, 0, none⟩), .int .u32 no, .int .i64 i, .slice A 64 c] W
   fun e W' => e = .returned (.int .i64 0) ∧ JBlk W' jb db vs safe ∧ Disk W' (And' OD W) db 512 (wrS s (no * 16 + i) x) ∧ Frame (fun k => OD k ∨ k = jb) W W' := by
 have HW : Calls Tryz.prog 121 #[.pointer (some ⟨db, 0, none⟩), .int .i64 ((no : Int) * 16 + (i : Int)), .slice A 64 c] W.drew fun e W' => e = .returned (.int .i64 0) ∧ Disk W' (And' OD W) db 512 (wrS s (no * 16 + i) x) ∧ Frame OD W W' := by
  have HW := write_a (W := W.drew) (hd.keep (fun _ _ _ => rfl)) ((no * 16 + i : Nat) : Int) c (A := A) hx hw
  rw [writeF_lit hl _ (by omega) _ hx64, hx64, show ((no * 16 + i : Nat) : Int) = (no : Int) * 16 + (i : Int) by omega] at HW
  refine HW.mono ?_
  rintro e w ⟨h1, h2, h3⟩
  exact ⟨h1, h2, ((Frame.refl OD W).drew).trans h3 (fun _ _ h => h)⟩
 have HW := As.mk HW
 have H := As.mk h
 have hrem : Int.tmod (no : Int) 32 = no := by rw [Int.tmod_eq_emod_of_nonneg (by omega)]; omega
 have hjl := blk_lt h
 have hwn : IntKind.i64.wrap (no : Int) = no := by simp [IntKind.wrap, IntKind.bits, IntKind.signed]; omega
 have hwm : IntKind.i64.wrap ((no : Int) * 16) = (no : Int) * 16 := by simp [IntKind.wrap, IntKind.bits, IntKind.signed]; omega
 have hwa : IntKind.i64.wrap ((no : Int) * 16 + (i : Int)) = (no : Int) * 16 + (i : Int) := by simp [IntKind.wrap, IntKind.bits, IntKind.signed]; omega
 have hj' := As.mk hj
 clear h hd hx
 go_enter Tryz.func96, Tryz.ntmps96
 go_upto_region 1 with fail
 refine wp_region_plan_kept (fun w' => JBlk w' jb db vs safe) [(1,0),(1,1),(1,2),(1,3),(0,4),(1,5),(1,6),(1,7),(1,8),(1,9),(0,10),(1,11),(1,12),(1,13),(1,14),(1,15),(2,16),(2,17),(2,18)] (by kernel_rfl) (by kernel_rfl) (by kernel_rfl) (by kernel_rfl) (fun _ _ _ _ _ h => h) H.out ?_
 simp only [tagged, List.filterMap_cons, List.filterMap_nil, List.getElem?_toArray, List.getElem?_cons_succ, List.getElem?_cons_zero, Option.map_some]
 iterate 4 (refine wpKept_sure (fun K hK => ?_); go_simp; refine hK _ ?_; clear hK K)
 refine wpKept_take (fun K hK => ?_)
 rw [if_pos (by rfl)]
 apply Exists.intro
 refine ⟨fun w' hw' => ?_, hK _ ?_⟩
 ·obtain ⟨k0, k1, k2, k3, k4⟩ := JBlk.cells hw'
  go_simp
  rfl
 clear hK K
 iterate 5 (refine wpKept_sure (fun K hK => ?_); go_simp; refine hK _ ?_; clear hK K)
 refine wpKept_take (fun K hK => ?_)
 rw [if_pos (by rfl)]
 apply Exists.intro
 refine ⟨fun w' hw' => ?_, hK _ ?_⟩
 ·obtain ⟨k0, k1, k2, k3, k4⟩ := JBlk.cells hw'
  go_simp
  rfl
 clear hK K
 iterate 5 (refine wpKept_sure (fun K hK => ?_); go_simp; refine hK _ ?_; clear hK K)
 clear hwn hwm hwa hrem
 refine wpKept_next (fun K hK => ?_)
 go_simp
 refine HW.out.mono ?_
 rintro e w1 ⟨rfl, q1, q2⟩
 have H1 : As (JBlk w1 jb db vs safe) := ⟨(q2.block jb hjl hj'.out).trans H.out⟩
 have D1 := As.mk q1
 have F1 := As.mk q2
 clear q1 q2 HW
 refine hK _ _ H1.out ?_
 clear hK K
 refine wpKept_next (fun K hK => ?_)
 go_simp
 refine (told_a H1.out 0 (by omega)).mono ?_
 rintro e w2 ⟨rfl, q1, q2⟩
 have H2 := As.mk q1
 have D2 : As (Disk w2 (And' OD W) db 512 (wrS s (no * 16 + i) x)) := ⟨D1.out.keep (fun k hk hlk => q2.block k hlk (fun e => by
  subst e
  rcases hk with hk | hk
  ·exact hj'.out hk
  ·omega))⟩
 have F2 : As (Frame (fun k => OD k ∨ k = jb) W w2) := ⟨(F1.out.mono (fun k hk => .inl hk)).trans q2 (fun k _ hk => .inr hk)⟩
 clear q1 q2
 refine hK _ _ H2.out ?_
 clear hK K
 refine wpKept_next (fun K hK => ?_)
 go_simp
 refine hK _ _ H2.out ?_
 clear hK K
 refine wpKept_nil ?_
 go_wp2_with fail
 go_ret
 exact ⟨rfl, H2.out, D2.out, F2.out⟩
theorem sync_a {W : World} {OD : Nat → Prop} {jb db : Nat} {vs : Value} {safe : Int} {s : St} (h : JBlk W jb db vs safe) (hd : Disk W OD db 512 s) (hl : LitS s) (hj : ¬ OD jb) :
  Calls Tryz.prog 53 #[.pointer (some ⟨jb, 0, none⟩)] W
   fun e W' => e = .returned (.int .i64 0) ∧ JBlk W' jb db vs safe ∧ Disk W' (And' OD W) db 512 (flS s) ∧ Frame (fun k => OD k ∨ k = jb) W W' := by
 have HW := flush_a hd
 rw [flushF_lit hl] at HW
 have HW := As.mk HW
 have H := As.mk h
 obtain ⟨k0, _⟩ := h.cells
 have hjl := blk_lt h
 have hj' := As.mk hj
 clear h hd
 go_enter Tryz.func53, Tryz.ntmps53
 go_wp2_with fail
 refine HW.out.mono ?_
 rintro e w1 ⟨rfl, q1, q2⟩
 have H1 : As (JBlk w1 jb db vs safe) := ⟨(q2.block jb hjl hj'.out).trans H.out⟩
 have D1 := As.mk q1
 have F1 := As.mk q2
 clear q1 q2 HW
 go_wp2_with fail
 refine (told_a H1.out 0 (by omega)).mono ?_
 rintro e w2 ⟨rfl, q1, q2⟩
 have H2 := As.mk q1
 have D2 : As (Disk w2 (And' OD W) db 512 (flS s)) := ⟨D1.out.keep (fun k hk hlk => q2.block k hlk (fun e => by
  subst e
  rcases hk with hk | hk
  ·exact hj'.out hk
  ·omega))⟩
 have F2 : As (Frame (fun k => OD k ∨ k = jb) W w2) := ⟨(F1.out.mono (fun k hk => .inl hk)).trans q2 (fun k _ hk => .inr hk)⟩
 clear q1 q2
 go_wp2_with fail
 go_ret
 exact ⟨rfl, H2.out, D2.out, F2.out⟩
theorem state_a {W : World} {jb db : Nat} {vs : Value} {safe : Int} (h : JBlk W jb db vs safe) :
  Calls Tryz.prog 33 #[.pointer (some ⟨jb, 0, none⟩)] W fun e W' => e = .returned (.int .i64 0) ∧ W = W' := by
 obtain ⟨_, _, _, _, c4⟩ := h.cells
 clear h
 go_enter Tryz.func33, Tryz.ntmps33
 go_wp2_with fail
 go_ret
 exact ⟨rfl, rfl⟩
end Go.Proofs.YthfjhgdiakciaaaGreat.Bl
/- A frame is laid behind a segment's end (lay). Condition: journal, disk and segment lie in memory, the frame fits. -/
namespace Go.Proofs.YthfjhgdiakciaaaGreat.Bl
open Go.RowKit
set_option linter.unusedVariables false
set_option linter.unusedSimpArgs false
theorem wpList_copy_cells {P : Program} {ops : Array Oper} {rest : List Oper} {o : Oper} {a : Act} {w : World} {Q : Exit → Act → World → Prop} (hgd : o.guard = none) (d s : Operand) (dT sT : TypeId)
  (ho : o.op = .call { callee := .builtin .copy, args := #[d, s], argTypes := #[dT, sT] }) (elem : TypeId) (hu : P.underlying dT = some (.slice elem)) (hsz : (P.info? elem).map (·.size) = some 1)
  (b off dLen dCap : Nat) (ad : Addr) (sLen sCap : Nat) (hd : a.eval d = .slice (some ⟨b, off, none⟩) dLen dCap) (hs : a.eval s = .slice (some ad) sLen sCap) (cs : List Value) (hn : cs.length = Nat.min sLen dLen)
  (hsrc : ∀ j v, cs[j]? = some v → w.cell? (ad.add j) = some v) (ht : w.there b off cs.length) (h1 : ∀ v ∈ cs, v.oneCell' = true) (h : wpList P ops Q rest (a.put o.dst (goInt cs.length)) (w.setCells b off cs)) : wpList P ops Q (o :: rest) a w :=
 wpList_plain hgd fun _ hK => wp_copy_cells d s dT sT ho elem hu hsz b off dLen dCap ad sLen sCap hd hs cs hn hsrc ht h1 (hK _ _ h)
theorem zero76 (w : World) : (zeroValue 76).run Tryz.prog w = .ok (.agg (bv (zeros 1024)).toArray) w := by kernel_rfl
/-- Blocks of an image are written, one behind the other. -/
def laid (s : St) (no : Nat) (img : List Int) (is : List Nat) : St := is.foldl (fun s i => wrS s (no * 16 + i) (blkF img i)) s
theorem laid_lit {no : Nat} {img : List Int} : ∀ (is : List Nat) {s : St}, LitS s → LitS (laid s no img is)
 | [], _, h => h
 | i :: is, _, h => laid_lit is (h.wr _ _)
theorem laid_snoc (s : St) (no : Nat) (img : List Int) (is : List Nat) (i : Nat) : laid s no img (is ++ [i]) = wrS (laid s no img is) (no * 16 + i) (blkF img i) := by simp [laid]
theorem laid_wait {no : Nat} {img : List Int} : ∀ (is : List Nat) (s : St), (laid s no img is).wait.length = s.wait.length + is.length
 | [], _ => rfl
 | i :: is, s => by
  show (laid (wrS s (no * 16 + i) (blkF img i)) no img is).wait.length = _
  rw [laid_wait is]; simp [wrS]; omega
set_option maxHeartbeats 4000000 in
set_option maxRecDepth 100000 in
theorem lay_a {W : World} {OD OS : Nat → Prop} {jb db p at_ : Nat} {vs : Value} {safe : Int} {s : St} {sg : Seg} {img : List Int} {ends : List Nat} {ve vl : Value} (h : JBlk W jb db vs safe) (hd : Disk W OD db 512 s) (hl : LitS s) (hj : ¬ OD jb) (hjs : ¬ OS jb)
  (hs : SegAt W OS p sg img ends ve vl) (hds : ∀ k, OD k → ¬ OS k) (hdl : ∀ k, OD k → k < W.heap.size) (hno : sg.no < 32) (hlen : ends.length = sg.l.length + 1) (hends : ends[sg.l.length]? = some at_) (hl6 : sg.l.length < 100000) {q o : Nat} {x : List Int} (hx : Bytes W (some ⟨q, o, none⟩) x) (hq : q < W.heap.size) (hx0 : 0 < x.length) (hxa : at_ + x.length ≤ 1024) (c : Nat) (hw : s.wait.length < 900000) :
  Calls Tryz.prog 51 #[.pointer (some ⟨jb, 0, none⟩), .pointer (some ⟨p, 0, none⟩), .slice (some ⟨q, o, none⟩) x.length c] W
   fun e W' => ∃ ve', e = .returned (.int .i64 0) ∧ JBlk W' jb db vs safe ∧ Disk W' (fun k => OD k ∨ (W.heap.size ≤ k ∧ k < W'.heap.size ∧ ¬ ve'.ownBlock = some k)) db 512 (laid s sg.no (putI img at_ x) (List.range' (at_ / 64) ((at_ + x.length + 63) / 64 - at_ / 64))) ∧
    SegAt W' (fun k => OS k ∨ ve'.ownBlock = some k) p sg (putI img at_ x) (ends ++ [at_ + x.length]) ve' vl ∧ (∀ k, ve'.ownBlock = some k → OS k ∨ W.heap.size ≤ k) ∧ Frame (fun k => OD k ∨ k = jb ∨ k = p ∨ ve.ownBlock = some k) W W' := by
 have hz := zero76
 obtain ⟨k0, k1, k3, k4⟩ := hs.cells
 have hEnd := As.mk (end_a hs sg.l.length at_ hends (by omega))
 obtain ⟨cs, _, hrow, _⟩ := hs.l
 obtain ⟨Al, cl, rfl⟩ : ∃ A c, vl = .slice A sg.l.length c := by
  rcases hrow.2 with ⟨hv, h0⟩ | ⟨g, cap, _, hv, _⟩
  ·rw [h0]; exact ⟨_, _, hv⟩
  ·exact ⟨_, _, hv⟩
 have hrow := As.mk hrow
 have H := As.mk h
 have D := As.mk hd
 have S := As.mk hs
 have X := As.mk hx
 have HJ := As.mk hj
 have HDS := As.mk hds
 have HDL := As.mk hdl
 have HLN := As.mk hlen
 have HES := As.mk hends
 clear h hd hs hx hlen hends
 go_enter Tryz.func51, Tryz.ntmps51
 go_wp2_with fail
 refine hEnd.out.mono ?_
 rintro e w1 ⟨rfl, rfl⟩
 have hIR := As.mk S.out.img_range
 have hil := S.out.il
 have hs76 : (Tryz.prog.info? 76).map (·.size) = some (bv img).length := by rw [bv_len, hil]; exact size76
 have hone := bv_one img
 clear k0 k1 k3 k4 hEnd
 go_upto_region 3 with (first | (refine wpList_load_mid rfl 76 (.tmp 21) rfl p 2 rfl (bv img) _ hIR.out Tryz.underlying76 rfl hs76 ?_) | (refine wpList_store_mid rfl 76 (.tmp 8) (.tmp 22) rfl W.heap.size 0 (bv img).toArray rfl rfl (there_block (blk_new W _) 0 _ (by rw [List.size_toArray, List.size_toArray, bv_len, bv_len, zeros_len, hil]; exact Nat.le_refl _)) (by rw [List.size_toArray]; exact hs76) (all_oneCell_toArray hone) ?_))
 obtain ⟨b8, hb8⟩ : ∃ b8, b8 = W.heap.size := ⟨_, rfl⟩
 have hsz2 : ((W.alloc (.cells (bv (zeros 1024)).toArray 76)).setCells W.heap.size 0 (bv img)).heap.size = W.heap.size + 1 := by rw [setCells_size]; simp
 have h8 : As (((W.alloc (.cells (bv (zeros 1024)).toArray 76)).setCells W.heap.size 0 (bv img)).heap[W.heap.size]? = some (.cells (bv img).toArray 76 (0, 0))) := ⟨row_over (blk_new W _) (by rw [List.size_toArray, bv_len, bv_len, zeros_len, hil])⟩
 have hB2 : As (Below W.heap.size W ((W.alloc (.cells (bv (zeros 1024)).toArray 76)).setCells W.heap.size 0 (bv img))) := ⟨((Below.refl _ W).alloc (Nat.le_refl _) _).trans (setCells_below _ (Nat.le_refl _))⟩
 generalize (W.alloc (.cells (bv (zeros 1024)).toArray 76)).setCells W.heap.size 0 (bv img) = w2 at *
 rw [← hb8] at h8 hB2 hsz2 ⊢
 have HB8 := As.mk hb8
 have HDL : As (∀ k, OD k → k < b8) := ⟨fun k hk => by rw [hb8]; exact HDL.out k hk⟩
 have hsp : p < b8 := by rw [hb8]; exact S.out.lt
 have hjb : jb < b8 := by rw [hb8]; exact blk_lt H.out
 have hsl : ∀ n : Nat, n < 1024 → ∀ l : Int, l = n → ∀ w', (Instr.sliceAt 76 (.pointer (some ⟨b8, 0, none⟩)) (some (.int .i64 l)) none none).run Tryz.prog w' = .ok (.slice (some ⟨b8, n, none⟩) (1024 - n) (1024 - n)) w' := fun n hn l hl' w' => slice76 b8 n hn l hl' w'
 have hsl := hsl at_ (by omega) at_ rfl
 have hX2 := As.mk (X.out.below hB2.out (by rw [hb8]; exact Nat.le_refl _))
 have hsrc : As (∀ j v, (bv x)[j]? = some v → w2.cell? ((⟨q, o, none⟩ : Addr).add j) = some v) := ⟨fun j v hv => by
  obtain ⟨q', o', e, _, hr⟩ := hX2.out.2 (by intro e; rw [e] at hx0; exact absurd hx0 (by decide))
  injection e with e
  injection e with e1 e2
  subst e1 e2
  rw [Addr.add_mid]
  exact hr j v hv⟩
 clear hb8 hIR hs76 hone
 go_upto_region 4 with (refine wpList_copy_cells rfl (.tmp 24) (.tmp 25) 39 39 rfl 5 Tryz.underlying39 size5 b8 at_ (1024 - at_) (1024 - at_) ⟨q, o, none⟩ x.length c rfl rfl (bv x) (by rw [bv_len]; exact (Nat.min_eq_left (by omega)).symm) hsrc.out (there_block h8.out at_ _ (by rw [bv_len, List.size_toArray, bv_len, hil]; omega)) (bv_one x) ?_)
 have h8' : As ((w2.setCells b8 at_ (bv x)).heap[b8]? = some (.cells (bv (putI img at_ x)).toArray 76 (0, 0))) := ⟨by
  rw [setCells_same (bv x) b8 at_ w2 _ h8.out, putAt_bv _ _ _ (by omega)]⟩
 have hB3 : As (Below b8 W (w2.setCells b8 at_ (bv x))) := ⟨hB2.out.trans (setCells_below _ (Nat.le_refl _))⟩
 have hsz3 : (w2.setCells b8 at_ (bv x)).heap.size = b8 + 1 := by rw [setCells_size, hsz2]
 have hgl : goInt ((bv x).length : Int) = .int .i64 x.length := by rw [bv_len]; rfl
 rw [hgl]
 generalize w2.setCells b8 at_ (bv x) = w3 at *
 have hil' : (putI img at_ x).length = 1024 := by rw [putI_len _ _ _ (by omega), hil]
 have hok' : As (ByteOk (putI img at_ x)) := ⟨putI_ok _ S.out.iok X.out.1⟩
 generalize hpi : putI img at_ x = img' at *
 have HPI := As.mk hpi
 clear hpi hsl hsz2 h8 hB2 hX2 hsrc hgl
 have hquo : Int.tdiv (at_ : Int) 64 = ((at_ / 64 : Nat) : Int) := by rw [Int.tdiv_eq_ediv_of_nonneg (by omega)]; omega
 obtain ⟨i0, hi0⟩ : ∃ i0, i0 = at_ / 64 := ⟨_, rfl⟩
 obtain ⟨i1, hi1⟩ : ∃ i1, i1 = (at_ + x.length + 63) / 64 := ⟨_, rfl⟩
 rw [← hi0] at hquo
 have hi0b : i0 * 64 ≤ at_ := by omega
 have hi1b : at_ + x.length ≤ i1 * 64 ∧ i1 * 64 < at_ + x.length + 64 := by omega
 have HI := As.mk (And.intro hi0 hi1)
 clear hi0 hi1
 go_wp2_with fail
 go_loopg [9] (i1 - i0) (fun gk v9 w' => ∃ (i : Nat) (s' : St), v9 = .int .i64 i ∧ As (i0 ≤ i ∧ i ≤ i1) ∧ As (gk = i1 - i) ∧ As (s' = laid s sg.no img' (List.range' i0 (i - i0))) ∧ As (JBlk w' jb db vs safe) ∧
   As (Disk w' (fun k => OD k ∨ (b8 < k ∧ k < w'.heap.size)) db 512 s') ∧ As (Frame (fun k => OD k ∨ k = jb) W w') ∧ As (w'.heap[b8]? = some (.cells (bv img').toArray 76 (0, 0))))
 case atStart =>
  refine ⟨i0, s, rfl, ⟨by omega⟩, ⟨rfl⟩, ⟨by rw [Nat.sub_self]; rfl⟩, ⟨(hB3.out.block jb hjb).trans H.out⟩, ⟨?_⟩, ⟨Frame.of_below hB3.out (by rw [HB8.out]; exact Nat.le_refl _)⟩, h8'⟩
  exact (D.out.keep (fun k hk _ => hB3.out.block k (HDL.out k hk))).mono (fun k hk _ => .inl hk)
 case round =>
  obtain ⟨i, s', rfl, HI', HK, HS', HJB, HD', HF, H8⟩ := hrel
  have hii := HI'.out
  have S1 : As (SegAt wr OS p sg img ends ve (.slice Al sg.l.length cl)) := ⟨S.out.keep (fun k hk hlk => HF.out.block k hlk (fun h => by
   rcases h with h | h
   ·exact HDS.out k h hk
   ·subst h; exact hjs hk)) HF.out.low.size⟩
  by_cases hlt : i < i1
  ·have hblk := blkF_len hil' (i := i) (by omega)
   have hltx : (i : Int) * 64 < (at_ : Int) + (x.length : Int) := by omega
   have hls : LitS s' := by rw [HS'.out]; exact laid_lit _ hl
   have hws : s'.wait.length < 1000000 := by rw [HS'.out, laid_wait, List.length_range']; omega
   have hone' := bv_one img'
   have hs76' : (Tryz.prog.info? 76).map (·.size) = some (bv img').toArray.size := by rw [List.size_toArray, bv_len, hil']; exact size76
   have hz8 := zero148
   clear hz
   go_wp2_with (refine wpList_load_row rfl 76 (.tmp 8) rfl b8 rfl 76 _ _ _ H8.out Tryz.underlying76 rfl hs76' ?_)
   refine (part_a hil' i (by omega) wr).mono ?_
   rintro e wa ⟨rfl, q1⟩
   have QA := As.mk q1
   have hsa := q1.size
   have hsb : b8 < wr.heap.size := blk_lt H8.out
   have honeb := bv_one (blkF img' i)
   have hs148 : (Tryz.prog.info? 148).map (·.size) = some (bv (blkF img' i)).toArray.size := by rw [List.size_toArray, bv_len, hblk]; exact size148
   have hs148' : (bv (blkF img' i)).toArray.size = 64 := by rw [List.size_toArray, bv_len, hblk]
   clear q1 hs76' hone'
   go_upto_region 8 with (refine wpList_store_mid rfl 148 (.tmp 10) (.tmp 40) rfl wa.heap.size 0 (bv (blkF img' i)).toArray rfl rfl (there_block (blk_new wa _) 0 _ (by rw [hs148', List.size_toArray, bv_len, zero64_len]; exact Nat.le_refl _)) hs148 (all_oneCell_toArray honeb) ?_)
   obtain ⟨b10, hb10⟩ : ∃ b10, b10 = wa.heap.size := ⟨_, rfl⟩
   have h10 : As (((wa.alloc (.cells (bv zero64).toArray 148)).setCells wa.heap.size 0 (bv (blkF img' i))).heap[wa.heap.size]? = some (.cells (bv (blkF img' i)).toArray 148 (0, 0))) := ⟨row_over (blk_new wa _) (by rw [List.size_toArray, bv_len, bv_len, zero64_len, hblk])⟩
   have hBb : As (Below wr.heap.size wr ((wa.alloc (.cells (bv zero64).toArray 148)).setCells wa.heap.size 0 (bv (blkF img' i)))) := ⟨(QA.out.alloc hsa _).trans (setCells_below _ hsa)⟩
   generalize (wa.alloc (.cells (bv zero64).toArray 148)).setCells wa.heap.size 0 (bv (blkF img' i)) = wb at *
   rw [← hb10] at h10 hsa ⊢
   clear QA hs148 hs148' honeb hz8 hb10
   have hsbb := hBb.out.size
   have HXB : As (Bytes wb (some ⟨b10, 0, none⟩) (blkF img' i)) := ⟨⟨blkF_ok hok'.out i, fun _ => ⟨b10, 0, rfl, blk_lt h10.out, fun j v hv => by
    rw [Nat.zero_add, blk_cell h10.out, List.getElem?_toArray]
    exact hv⟩⟩⟩
   have HJB := As.mk ((hBb.out.block jb (by have := hjb; omega)).trans HJB.out)
   have HDb : As (Disk wb (fun k => OD k ∨ (b8 < k ∧ k < wr.heap.size)) db 512 s') := ⟨HD'.out.keep (fun k _ hlk => hBb.out.block k hlk)⟩
   have S2 := As.mk (S1.out.keep (W' := wb) (fun k _ hlk => hBb.out.block k hlk) hsbb)
   have H8b := As.mk ((hBb.out.block b8 hsb).trans H8.out)
   have HFb : As (Frame (fun k => OD k ∨ k = jb) W wb) := ⟨HF.out.trans (Frame.of_below hBb.out (Nat.le_refl _)) (fun _ _ h => h)⟩
   have HPUT := As.mk (put_j (W := wb.drew) (OD := fun k => OD k ∨ (b8 < k ∧ k < wr.heap.size)) HJB.out (HDb.out.keep (fun _ _ _ => rfl)) hls (fun h => by rcases h with h | h; exact HJ.out h; omega) sg.no i hno (by omega) HXB.out hblk 64 hws)
   refine wp_region_plan_kept (fun w' => w'.cell? ⟨p, 0, none⟩ = some (.int .u32 sg.no)) [(1,0),(1,1),(1,2),(1,3),(0,4),(1,5),(1,6),(2,7),(2,8)] (by kernel_rfl) (by kernel_rfl) (by kernel_rfl) (by kernel_rfl) (fun _ _ _ _ _ h => h) S2.out.cells.1 ?_
   simp only [tagged, List.filterMap_cons, List.filterMap_nil, List.getElem?_toArray, List.getElem?_cons_succ, List.getElem?_cons_zero, Option.map_some]
   iterate 4 (refine wpKept_sure (fun K hK => ?_); go_simp; refine hK _ ?_; clear hK K)
   refine wpKept_take (fun K hK => ?_)
   rw [if_pos (by rfl)]
   apply Exists.intro
   refine ⟨fun w' hw' => ?_, hK _ ?_⟩
   ·go_simp
    rfl
   clear hK K
   iterate 2 (refine wpKept_sure (fun K hK => ?_); go_simp; refine hK _ ?_; clear hK K)
   refine wpKept_next (fun K hK => ?_)
   go_simp
   refine HPUT.out.mono ?_
   rintro e wc ⟨rfl, q1, q2, q3⟩
   have q3' : Frame (fun k => (OD k ∨ (b8 < k ∧ k < wr.heap.size)) ∨ k = jb) wb wc := (Frame.refl _ wb).drew.trans q3 (fun _ _ h => h)
   have hsc := q3'.low.size
   have HJB := As.mk q1
   have HDc : As (Disk wc (fun k => OD k ∨ (b8 < k ∧ k < wc.heap.size)) db 512 (wrS s' (sg.no * 16 + i) (blkF img' i))) := ⟨q2.mono (fun k hk hlk => by
    rcases hk with (hk | hk) | hk
    ·exact .inl hk
    ·exact .inr ⟨hk.1, hlk⟩
    ·have : wb.drew.heap.size = wb.heap.size := rfl
     exact .inr ⟨by omega, hlk⟩)⟩
   have HFc : As (Frame (fun k => OD k ∨ k = jb) W wc) := ⟨HFb.out.trans q3' (fun k hk h => by
    rcases h with (h | h) | h
    ·exact .inl h
    ·have := HB8.out; omega
    ·exact .inr h)⟩
   have H8c : As (wc.heap[b8]? = some (.cells (bv img').toArray 76 (0, 0))) := ⟨(q3'.block b8 (by omega) (fun h => by
    rcases h with (h | h) | h
    ·exact absurd (HDL.out b8 h) (by omega)
    ·omega
    ·omega)).trans H8b.out⟩
   have Sc : As (wc.cell? ⟨p, 0, none⟩ = some (.int .u32 sg.no)) := ⟨by
    have := S.out.keep (W' := wc) (fun k hk hlk => HFc.out.block k hlk (fun h => by
     rcases h with h | h
     ·exact HDS.out k h hk
     ·subst h; exact hjs hk)) HFc.out.low.size
    exact this.cells.1⟩
   clear q1 q2 q3 q3' HPUT
   refine hK _ _ Sc.out ?_
   clear hK K
   refine wpKept_next (fun K hK => ?_)
   go_simp
   refine hK _ _ Sc.out ?_
   clear hK K
   refine wpKept_nil ?_
   go_wp2_with fail
   go_roundg (i1 - (i + 1))
   case measure => have := HK.out; omega
   case rel =>
    refine ⟨i + 1, wrS s' (sg.no * 16 + i) (blkF img' i), by go_num, ⟨by omega⟩, ⟨rfl⟩, ⟨?_⟩, HJB, HDc, HFc, H8c⟩
    rw [HS'.out, show i + 1 - i0 = (i - i0) + 1 by omega, List.range'_concat, laid_snoc]
    congr 2 <;> omega
  ·have hi : i = i1 := by omega
   subst hi
   have hge : ¬ (i : Int) * 64 < (at_ : Int) + (x.length : Int) := by omega
   have hone' := bv_one img'
   have hs76' : (Tryz.prog.info? 76).map (·.size) = some (bv img').toArray.size := by rw [List.size_toArray, bv_len, hil']; exact size76
   have hsz76 : (bv img').toArray.size = 1024 := by rw [List.size_toArray, bv_len, hil']
   have ht : wr.there p 2 (bv img').toArray.size := there_block S1.out.blk 2 _ (by rw [hsz76, List.size_toArray, segC_len _ _ hil]; omega)
   obtain ⟨i3, hi3, hz0, hz1, hz2⟩ := info_parts info3
   clear hz hlt
   go_upto_region 12 with (first | (refine wpList_load_row rfl 76 (.tmp 8) rfl b8 rfl 76 _ _ _ H8.out Tryz.underlying76 rfl hs76' ?_) | (refine wpList_store_mid rfl 76 (.tmp 55) (.tmp 53) rfl p 2 (bv img').toArray rfl rfl ht hs76' (all_oneCell_toArray hone') ?_))
   have hpo := As.mk S1.out.po
   have hEb : As (∀ g, ve.ownBlock = some g → g < W.heap.size) := ⟨fun g hg => own_lt S.out.ends g hg⟩
   have hneE : ∀ g, ve.ownBlock = some g → g ≠ p := own_ne S1.out.ends S1.out.blk (by decide)
   have hb4 : As ((wr.setCells p 2 (bv img')).heap[p]? = some (.cells (segC sg.no sg.first img' ve (.slice Al sg.l.length cl)).toArray 141 (0, 0))) := ⟨by
    rw [setCells_same (bv img') p 2 wr _ S1.out.blk, segC_put _ _ _ _ _ _ 0 (by omega), putI_0, over_full _ _ (by omega)]⟩
   have hEn := As.mk (own_keep (W' := wr.setCells p 2 (bv img')) S1.out.ends (fun g hg _ => setCells_far _ _ _ _ (hneE g hg)))
   have hFr : As (Frame (fun k => k = p) wr (wr.setCells p 2 (bv img'))) := ⟨(Frame.refl (fun k => k = p) wr).setCells (b := p) (.inl rfl) 2 _⟩
   have hLr := As.mk S1.out.l
   have hsz4 : (wr.setCells p 2 (bv img')).heap.size = wr.heap.size := setCells_size _ _ _ _
   clear ht
   have HEO := As.mk S1.out.eo
   have HSZ4 := As.mk hsz4
   clear hsz4
   generalize hw4 : wr.setCells p 2 (bv img') = w4 at *
   clear hw4
   have c3 : w4.cell? ⟨p, 1026, none⟩ = some ve := by rw [blk_cell hb4.out, List.getElem?_toArray]; exact segC_3 _ _ hil' _ _
   have f3 := blk_frozen hb4.out 1026
   have hen : ends.length ≤ 1000000 := by have := HLN.out; omega
   have hq1 : As ((w4.alloc (.cells #[.int .i64 ((at_ : Int) + (x.length : Int))] 3)).ownsRow 0 3 1 ve ends.length (ends.map endV)) := ⟨hEn.out.alloc _⟩
   go_wp2_with ((at_builtin; refine wpList_append_lies _ rfl _ _ 139 rfl 0 3 i3 (.int .i64 0) 1 8 Tryz.underlying139 hi3 hz0 hz1 hz2 rfl (by omega) _ _ _ rfl hq1.out ⟨w4.heap.size, 0, none⟩ 1 1 [.int .i64 ((at_ : Int) + (x.length : Int))] rfl rfl (World.news_of_block (blk_new w4 _)) (by simp [Value.oneCell']) (by omega) (by unfold maxLen; omega) (by omega) (Nat.zero_le _) _ rfl ?_))
   intro gg cap w7 hown7 hgrow7 hat7 hlt7
   have hneE4 : ∀ g, ve.ownBlock = some g → g ≠ p := hneE
   have hgb8 : ∀ g, ve.ownBlock = some g → g < b8 := fun g hg => by have := hEb.out g hg; have := HB8.out; omega
   have hb7 : As (w7.heap[p]? = some (.cells (segC sg.no sg.first img' ve (.slice Al sg.l.length cl)).toArray 141 (0, 0))) := ⟨(hgrow7.block p (by rw [World.size_alloc]; have := blk_lt hb4.out; omega) (fun e => hneE4 p e.symm rfl)).trans (blk_old hb4.out _)⟩
   have hF7 : As (Frame (fun k => k = p ∨ ve.ownBlock = some k) wr w7) := ⟨((hFr.out.mono (fun k hk => .inl hk)).alloc _).grown hgrow7 (fun k hk => .inl (.inr hk))⟩
   have HO7 := As.mk hown7
   have hgg : As (ve.ownBlock = some gg ∨ gg = wr.heap.size + 1) := ⟨by
    rcases hat7 with h | h
    ·exact .inl h
    ·right; rw [h, HSZ4.out]⟩
   have hggp : gg ≠ p := fun e => own_ne hown7 hb7.out (by decide) gg rfl e
   have hs7 := hF7.out.low.size
   have hggl := As.mk hlt7
   have d3 : w7.cell? ⟨p, 1026, none⟩ = some ve := by rw [blk_cell hb7.out, List.getElem?_toArray]; exact segC_3 _ _ hil' _ _
   have g3 := blk_frozen hb7.out 1026
   clear hown7 hgrow7 hat7 hlt7 hq1 hEn c3 f3 hb4
   go_wp2_with fail
   go_ret
   have F8 : Frame (fun k => k = p ∨ ve.ownBlock = some k) wr (w7.setCell ⟨p, 1026, none⟩ (.slice (some ⟨gg, 0, none⟩) (ends.length + 1) cap)) := hF7.out.setCell (.inl (.inl rfl)) _
   have hs8 : (w7.setCell ⟨p, 1026, none⟩ (.slice (some ⟨gg, 0, none⟩) (ends.length + 1) cap)).heap.size = w7.heap.size := by simp
   have hbl := blk_put hb7.out 1026 (.slice (some ⟨gg, 0, none⟩) (ends.length + 1) cap)
   rw [segC_ends _ _ hil'] at hbl
   have hO8 := own_keep (W' := w7.setCell ⟨p, 1026, none⟩ (.slice (some ⟨gg, 0, none⟩) (ends.length + 1) cap)) HO7.out (fun g' hg' _ => Below.heap_setCell _ _ _ _ (show g' ≠ p by rw [← ob_eq hg']; exact hggp))
   generalize w7.setCell ⟨p, 1026, none⟩ (.slice (some ⟨gg, 0, none⟩) (ends.length + 1) cap) = w8 at *
   have hjp : jb ≠ p := fun e => hjs (e ▸ hpo.out)
   have hb8w : b8 < wr.heap.size := blk_lt H8.out
   have hne : ∀ k, (OD k ∨ (b8 < k ∧ k < wr.heap.size)) → ¬ (k = p ∨ ve.ownBlock = some k) := fun k hk h => by
    rcases hk with hk | hk
    ·rcases h with h | h
     ·subst h; exact hds k hk hpo.out
     ·exact hds k hk (HEO.out k h)
    ·rcases h with h | h
     ·omega
     ·have := hgb8 k h; omega
   have hgk : ∀ k, k < wr.heap.size → ¬ ve.ownBlock = some k → ¬ (Value.slice (some ⟨gg, 0, none⟩) (ends.length + 1) cap).ownBlock = some k := fun k hk hv e => by
    have e := ob_eq e
    rcases hgg.out with h | h
    ·exact hv (e ▸ h)
    ·omega
   refine ⟨.slice (some ⟨gg, 0, none⟩) (ends.length + 1) cap, rfl, ?_, ?_, ?_, ?_, ?_⟩
   ·exact (F8.block jb (by omega) (fun h => by rcases h with h | h; exact hjp h; exact hjs (HEO.out jb h))).trans HJB.out
   ·have hD8 := (HD'.out.keep (W' := w8) (fun k hk hlk => F8.block k hlk (hne k hk)))
    have hD9 : Disk w8 (fun k => OD k ∨ (W.heap.size ≤ k ∧ k < w8.heap.size ∧ ¬ (Value.slice (some ⟨gg, 0, none⟩) (ends.length + 1) cap).ownBlock = some k)) db 512 s' := hD8.mono (fun k hk hlk => by
     rcases hk with hk | hk
     ·exact .inl hk
     ·refine .inr ⟨by have := HB8.out; omega, hlk, hgk k hk.2 (fun h => ?_)⟩
      have := hgb8 k h
      omega)
    have e := HS'.out
    rw [HI.out.1, HI.out.2, ← HPI.out] at e
    rw [← e]
    exact hD9
   ·rw [HPI.out]
    refine ⟨hbl, hil', hok'.out, ?_, fun g hg => .inr hg, ?_, .inl hpo.out⟩
    ·have e1 : (ends ++ [at_ + x.length]).length = ends.length + 1 := by simp
     have e2 : (ends ++ [at_ + x.length]).map endV = ends.map endV ++ [.int .i64 ((at_ : Int) + (x.length : Int))] := by
      rw [List.map_append]
      simp [endV]
     rw [e1, e2]
     exact hO8
    ·refine (hLr.out.mono (own' := fun k => (OS k ∧ k ≠ p ∧ ¬ ve.ownBlock = some k) ∧ k < wr.heap.size) (fun k hk hlk => ⟨hk, hlk⟩)).keep (W' := w8) (fun k hk hlk => F8.block k hlk (fun h => ?_)) F8.low.size |>.mono (fun k hk hlk => ⟨.inl hk.1.1, hk.1.2.1, hgk k hk.2 hk.1.2.2⟩)
     rcases h with h | h
     ·exact hk.1.2.1 h
     ·exact hk.1.2.2 h
   ·intro k hk
    have e := ob_eq hk
    rcases hgg.out with h | h
    ·exact .inl (e ▸ HEO.out gg h)
    ·right; have := HB8.out; omega
   ·exact (HF.out.mono (fun k hk => by rcases hk with h | h; exact .inl h; exact .inr (.inl h))).trans F8 (fun k _ hk => by rcases hk with h | h; exact .inr (.inr (.inl h)); exact .inr (.inr (.inr h)))
end Go.Proofs.YthfjhgdiakciaaaGreat.Bl
