/- A journal's segments in memory; the last segment (current), the last number (Last), the last entry (last). Condition: the journal lies in memory as it is told. -/
import Derived.Laws.RangeString
import Derived.Lib.Bytes
import Derived.Test.YthfjhgdiakciaaaGreatM08
namespace Go.Proofs.YthfjhgdiakciaaaGreat.Bl
open Go.RowKit
set_option linter.unusedVariables false
set_option linter.unusedSimpArgs false
/-- A segment's frames. -/
def bodyF (s : Seg) : List Int := frames (hdr s.no s.first :: s.l.map entF)
/-- A segment's image. -/
def imgF (s : Seg) : List Int := over (zeros 1024) (bodyF s)
def endsF (s : Seg) : List Nat := (List.range (s.l.length + 1)).map fun i => (frames (hdr s.no s.first :: (s.l.take i).map entF)).length
def endF (s : Seg) : Nat := (bodyF s).length
theorem endsF_len (s : Seg) : (endsF s).length = s.l.length + 1 := by simp [endsF]
theorem endsF_last (s : Seg) : (endsF s)[s.l.length]? = some (endF s) := by
 unfold endsF endF bodyF
 rw [List.getElem?_map, List.getElem?_range (by omega)]
 rw [Option.map_some, List.take_length]
theorem frames_cons (x : List Int) (L : List (List Int)) : frames (x :: L) = frameF x ++ frames L := by unfold frames; rw [List.map_cons, List.flatten_cons]
theorem bodyF_nil (no first : Nat) : bodyF ⟨no, first, []⟩ = frameF (hdr no first) := by
 unfold bodyF; rw [List.map_nil, frames_cons]; simp [frames]
theorem imgF_nil (no first : Nat) : imgF ⟨no, first, []⟩ = img0 no first := by unfold imgF img0; rw [bodyF_nil]
theorem endsF_nil (no first : Nat) : endsF ⟨no, first, []⟩ = [21] := by
 unfold endsF
 have e : (frames [hdr no first]).length = 21 := by rw [frames_cons, List.length_append, frameF_len, hdr_len]; rfl
 show (List.range 1).map _ = _
 simp [e]
def Seg.add (s : Seg) (e : Ent) : Seg := { s with l := s.l ++ [e] }
theorem bodyF_add (s : Seg) (e : Ent) : bodyF (s.add e) = bodyF s ++ frameF (entF e) := by
 unfold bodyF Seg.add
 rw [List.map_append, ← List.cons_append, frames_app]
 congr 1
 simp [frames]
theorem endF_add (s : Seg) (e : Ent) : endF (s.add e) = endF s + (8 + (entF e).length) := by
 unfold endF; rw [bodyF_add, List.length_append, frameF_len]
theorem endsF_add (s : Seg) (e : Ent) : endsF (s.add e) = endsF s ++ [endF s + (8 + (entF e).length)] := by
 have hl : (s.add e).l.length = s.l.length + 1 := by simp [Seg.add]
 unfold endsF
 rw [hl, List.range_succ, List.map_append]
 congr 1
 ·apply List.map_congr_left
  intro i hi
  have hi : i < s.l.length + 1 := List.mem_range.1 hi
  show (frames (hdr s.no s.first :: ((s.l ++ [e]).take i).map entF)).length = _
  rw [List.take_append_of_le_length (by omega)]
 ·rw [← endF_add]
  unfold endF bodyF
  rw [← hl, List.map_singleton, List.take_length]
theorem imgF_add (s : Seg) (e : Ent) (h : endF s + (8 + (entF e).length) ≤ 1024) : imgF (s.add e) = putI (imgF s) (endF s) (frameF (entF e)) := by
 unfold imgF
 rw [bodyF_add]
 have hb : (bodyF s).length = endF s := rfl
 unfold putI over
 rw [List.take_left' hb, List.append_assoc, List.length_append, frameF_len, hb]
 congr 2
 rw [List.drop_append, List.drop_of_length_le (l := bodyF s) (by rw [hb]; omega), List.nil_append, List.drop_drop, hb]
 congr 1
 omega
theorem imgF_len (s : Seg) (h : endF s ≤ 1024) : (imgF s).length = 1024 := by
 unfold imgF; rw [over_len _ _ (by rw [zeros_len]; exact h), zeros_len]
def ptrV (p : Nat) : Value := .pointer (some ⟨p, 0, none⟩)
def SegP (W : World) (own : Nat → Prop) (p : Nat) (s : Seg) : Prop := ∃ ve vl, SegAt W own p s (imgF s) (endsF s) ve vl
theorem SegP.keep {W W' : World} {own : Nat → Prop} {p : Nat} {s : Seg} (h : SegP W own p s) (hk : ∀ k, own k → k < W.heap.size → W'.heap[k]? = W.heap[k]?) (hs : W.heap.size ≤ W'.heap.size) : SegP W' own p s := by
 obtain ⟨ve, vl, h⟩ := h
 exact ⟨ve, vl, h.keep hk hs⟩
theorem SegP.mono {W : World} {own own' : Nat → Prop} {p : Nat} {s : Seg} (h : SegP W own p s) (hs : ∀ k, own k → k < W.heap.size → own' k) : SegP W own' p s := by
 obtain ⟨ve, vl, h⟩ := h
 exact ⟨ve, vl, h.mono hs⟩
/-- A row of segments, the last one in blocks of its own. -/
structure JS (W : World) (own : Nat → Prop) (vs : Value) (old : List Seg) (cur : Seg) (ps : List Nat) (p B : Nat) : Prop where
 row : W.ownsRow 0 79 1 vs (old.length + 1) ((ps ++ [p]).map ptrV)
 len : ps.length = old.length
 vo : ∀ g, vs.ownBlock = some g → own g
 olds : ∀ (i : Nat) (sg : Seg), old[i]? = some sg → ∃ q, ps[i]? = some q ∧ SegP W (fun k => (own k ∧ ¬ vs.ownBlock = some k) ∧ k < B) q sg
 cur : SegP W (fun k => (own k ∧ ¬ vs.ownBlock = some k) ∧ B ≤ k) p cur
 bl : B ≤ W.heap.size
theorem JS.keep {W W' : World} {own : Nat → Prop} {vs : Value} {old : List Seg} {cur : Seg} {ps : List Nat} {p B : Nat} (h : JS W own vs old cur ps p B) (hk : ∀ k, own k → k < W.heap.size → W'.heap[k]? = W.heap[k]?) (hs : W.heap.size ≤ W'.heap.size) : JS W' own vs old cur ps p B :=
 ⟨own_keep h.row (fun g hg hl => hk g (h.vo g hg) hl), h.len, h.vo, fun i sg hi => by
  obtain ⟨q, a, b⟩ := h.olds i sg hi
  exact ⟨q, a, b.keep (fun k hk' hl => hk k hk'.1.1 hl) hs⟩, h.cur.keep (fun k hk' hl => hk k hk'.1.1 hl) hs, Nat.le_trans h.bl hs⟩
theorem JS.mono {W : World} {own own' : Nat → Prop} {vs : Value} {old : List Seg} {cur : Seg} {ps : List Nat} {p B : Nat} (h : JS W own vs old cur ps p B) (hs : ∀ k, own k → k < W.heap.size → own' k) : JS W own' vs old cur ps p B :=
 ⟨h.row, h.len, fun g hg => hs g (h.vo g hg) (own_lt h.row g hg), fun i sg hi => by
  obtain ⟨q, a, b⟩ := h.olds i sg hi
  exact ⟨q, a, b.mono (fun k hk' hl => ⟨⟨hs k hk'.1.1 hl, hk'.1.2⟩, hk'.2⟩)⟩, h.cur.mono (fun k hk' hl => ⟨⟨hs k hk'.1.1 hl, hk'.1.2⟩, hk'.2⟩), h.bl⟩
theorem cur_none {W : World} {jb db : Nat} {safe : Int} (h : JBlk W jb db (.slice none 0 0) safe) :
  Calls Tryz.prog 34 #[.pointer (some ⟨jb, 0, none⟩)] W fun e W' => e = .returned (.pointer none) ∧ W = W' := by
 obtain ⟨_, _, c2, _, _⟩ := h.cells
 clear h
 go_enter Tryz.func34, Tryz.ntmps34
 go_wp2_with fail
 go_ret
 exact ⟨rfl, rfl⟩
section
variable {W : World} {own : Nat → Prop} {jb db : Nat} {vs : Value} {safe : Int} {old : List Seg} {cur : Seg} {ps : List Nat} {p B : Nat}
theorem cur_a (h : JBlk W jb db vs safe) (hj : JS W own vs old cur ps p B) (hl : old.length < 1000) :
  Calls Tryz.prog 34 #[.pointer (some ⟨jb, 0, none⟩)] W fun e W' => e = .returned (ptrV p) ∧ Below W.heap.size W W' := by
 obtain ⟨_, _, c2, _, _⟩ := h.cells
 obtain ⟨g, c, rfl, _, hgl⟩ := hj.row.form (by omega)
 have hp : W.cell? ⟨g, old.length, none⟩ = some (ptrV p) := by
  rw [hj.row.cellAt old.length (by omega), List.getElem?_map, List.getElem?_append_right (by rw [hj.len]; exact Nat.le_refl _), hj.len]
  simp
 clear h hj
 generalize old.length = n at *
 go_enter Tryz.func34, Tryz.ntmps34
 go_wp2_with fail
 go_region
 go_wp2_with fail
 go_ret
 exact ⟨rfl, (Below.refl _ _).drew⟩
theorem last_none {safe : Int} (h : JBlk W jb db (.slice none 0 0) safe) :
  Calls Tryz.prog 8 #[.pointer (some ⟨jb, 0, none⟩)] W fun e W' => e = .returned (.int .u64 0) ∧ Below W.heap.size W W' := by
 obtain ⟨_, _, c2, _, _⟩ := h.cells
 have HS := As.mk (state_a h)
 clear h
 go_enter Tryz.func8, Tryz.ntmps8
 go_wp2_with fail
 refine HS.out.mono ?_
 rintro e w1 ⟨rfl, rfl⟩
 go_wp2_with fail
 go_ret
 exact ⟨rfl, Below.refl _ _⟩
theorem last_a (h : JBlk W jb db vs safe) (hj : JS W own vs old cur ps p B) (hl : old.length < 1000) (hf : 0 < cur.first ∧ cur.first < 1000000) (hcl : cur.l.length < 1000000) :
  Calls Tryz.prog 8 #[.pointer (some ⟨jb, 0, none⟩)] W fun e W' => e = .returned (.int .u64 ((cur.first + cur.l.length - 1 : Nat) : Int)) ∧ Below W.heap.size W W' := by
 obtain ⟨_, _, c2, _, _⟩ := h.cells
 obtain ⟨g, c, rfl, _, hgl⟩ := hj.row.form (by omega)
 have HS := As.mk (state_a h)
 have HC := As.mk (cur_a h hj hl)
 have HJ := As.mk hj
 have hne : ((((old.length + 1 : Nat) : Int)) == 0) = false := by simpa using (show ¬ ((old.length + 1 : Nat) : Int) = 0 by omega)
 have hne' : (((old.length : Int) + 1) == 0) = false := by simpa using (show ¬ (old.length : Int) + 1 = 0 by omega)
 have hsub : IntKind.u64.wrap (((cur.first + cur.l.length : Nat) : Int) - 1) = ((cur.first + cur.l.length - 1 : Nat) : Int) := by simp [IntKind.wrap, IntKind.bits, IntKind.signed]; omega
 clear h hj
 go_enter Tryz.func8, Tryz.ntmps8
 go_wp2_with fail
 refine HS.out.mono ?_
 rintro e w1 ⟨rfl, rfl⟩
 go_wp2_with fail
 refine HC.out.mono ?_
 rintro e w1 ⟨rfl, q1⟩
 have B1 := As.mk q1
 have hcur := HJ.out.cur.keep (W' := w1) (fun k _ hk => q1.block k hk) q1.size
 obtain ⟨ve, vl, hc⟩ := hcur
 have HN := As.mk (next_a hc (by omega) hcl)
 have hs1 := q1.size
 clear hc q1 c2
 generalize hx : ((cur.first + cur.l.length : Nat) : Int) = xx at *
 unfold ptrV
 go_wp2_with fail
 refine HN.out.mono ?_
 rintro e w2 ⟨rfl, q1⟩
 have B2 := As.mk (B1.out.trans (q1.mono hs1))
 clear q1
 go_wp2_with fail
 go_ret
 exact ⟨rfl, B2.out⟩
end
end Go.Proofs.YthfjhgdiakciaaaGreat.Bl
/- The last entry of a journal (last); the next segment (turn). Condition: the journal and its disk lie in memory as they are told. -/
namespace Go.Proofs.YthfjhgdiakciaaaGreat.Bl
open Go.RowKit
set_option linter.unusedVariables false
set_option linter.unusedSimpArgs false
theorem EntAt.len {W : World} {own : Nat → Prop} {e : Ent} {c : List Value} (h : EntAt W own e c) : c.length = 11 := by
 obtain ⟨_, _, _, _, rfl, _⟩ := h
 rfl
theorem EntRow.all11 {W : World} {own : Nat → Prop} {l : List Ent} {cs : List (List Value)} (hl : cs.length = l.length) (h : ∀ (i : Nat) (e : Ent), l[i]? = some e → ∃ c, cs[i]? = some c ∧ EntAt W own e c) : ∀ x ∈ cs, x.length = 11 := fun x hx => by
 obtain ⟨i, hi, rfl⟩ := List.mem_iff_getElem.1 hx
 obtain ⟨c, h1, h2⟩ := h i l[i] (List.getElem?_eq_getElem (by omega))
 rw [List.getElem?_eq_getElem hi] at h1
 injection h1 with h1
 rw [h1]
 exact h2.len
theorem EntRow.at {W : World} {own : Nat → Prop} {g n c : Nat} {l : List Ent} (h : EntRow W own (.slice (some ⟨g, 0, none⟩) n c) l) {i : Nat} {e : Ent} (he : l[i]? = some e) : ∃ x, EntAt W own e x ∧ W.rangeAt g (i * 11) x := by
 obtain ⟨cs, h1, h2, h3, h4⟩ := h
 obtain ⟨x, a, b⟩ := h4 i e he
 have hn : l.length = n := by
  rcases h2.2 with ⟨hv, _⟩ | ⟨g', cap, cur, hv, _⟩
  ·cases hv
  ·injection hv with _ hv; exact hv.symm
 rw [hn] at h2
 refine ⟨x, b.mono (fun k hk _ => hk.1), own_range h2 _ _ (fun j v hv => ?_)⟩
 have hj : j < 11 := by have := (List.getElem?_eq_some_iff.1 hv).1; rwa [b.len] at this
 rw [chunk_get (k := 11) (by omega) cs (EntRow.all11 h1 h4)]
 have e1 : (i * 11 + j) / 11 = i := by omega
 have e2 : (i * 11 + j) % 11 = j := by omega
 rw [e1, e2, a]
 exact hv
theorem EntAt.one {W : World} {own : Nat → Prop} {e : Ent} {c : List Value} (h : EntAt W own e c) : ∀ v ∈ c, v.oneCell' = true := by
 obtain ⟨_, _, _, _, rfl, _⟩ := h
 exact agg11_one rfl rfl rfl rfl rfl rfl rfl rfl rfl rfl rfl
theorem follows_e {W' : World} {own own' : Nat → Prop} {W1 W2 : World} {a b : Ent} {ca cb : List Value} (ha : EntOk a) (hb : EntOk b) (h : b.lsn = a.lsn + 1) (xa : EntAt W1 own a ca) (xb : EntAt W2 own' b cb) (W : World) :
  Calls Tryz.prog 47 #[.agg ca.toArray, .agg cb.toArray] W fun e W' => e = .returned (.bool true) ∧ Below W.heap.size W W' := by
 obtain ⟨_, _, _, _, rfl, _⟩ := xa
 obtain ⟨_, _, _, _, rfl, _⟩ := xb
 exact follows_a _ _ _ _ _ _ _ _ _ _ _ _ _ _ _ _ _ _ _ _ _ _ _ _ _ _ ha.lsn h (by rcases hb.kind with h | h | h <;> omega) (chk_ok ha _ _ _ _) (chk_ok hb _ _ _ _) W
section
variable {W : World} {own : Nat → Prop} {jb db : Nat} {vs : Value} {safe : Int} {old : List Seg} {cur : Seg} {ps : List Nat} {p B : Nat}
set_option maxHeartbeats 4000000 in
set_option maxRecDepth 100000 in
theorem lastE_a (h : JBlk W jb db vs safe) (hj : JS W own vs old cur ps p B) (hl : old.length < 1000) (hcl : cur.l.length < 100000) {e : Ent} {n : Nat} (hn : cur.l.length = n + 1) (he : cur.l[n]? = some e) :
  Calls Tryz.prog 46 #[.pointer (some ⟨jb, 0, none⟩)] W fun x W' => ∃ c, x = .returned (.tuple #[.agg c.toArray, .bool true]) ∧ EntAt W own e c ∧ Below W.heap.size W W' := by
 obtain ⟨_, _, c2, _, _⟩ := h.cells
 obtain ⟨g, c, rfl, _, hgl⟩ := hj.row.form (by omega)
 have hp : W.cell? ⟨g, old.length, none⟩ = some (ptrV p) := by
  rw [hj.row.cellAt old.length (by omega), List.getElem?_map, List.getElem?_append_right (by rw [hj.len]; exact Nat.le_refl _), hj.len]
  simp
 obtain ⟨ve, vl, hs⟩ := hj.cur
 obtain ⟨_, _, _, k4⟩ := hs.cells
 obtain ⟨cs, _, hrow, _⟩ := hs.l
 obtain ⟨gl, cl, rfl, _, hgll⟩ := hrow.form (by omega)
 obtain ⟨x, hx, hr⟩ := hs.l.at he
 have HX := As.mk hx
 have HR := As.mk hr
 have hpl := hs.lt
 have hln := hx.len
 have hone := hx.one
 have hz : ∀ w, (zeroValue 41).run Tryz.prog w = .ok (.agg zero41) w := fun w => by kernel_rfl
 have hjbl := blk_lt h
 have hnb : n < 100000 := by omega
 clear h hj hs hrow hr hx he
 rw [hn] at *
 unfold ptrV at hp
 generalize old.length = m at *
 go_enter Tryz.func46, Tryz.ntmps46
 go_wp2_with fail
 go_loopg [4] 1 (fun gk v4 w' => v4 = .int .i64 m ∧ As (gk = 1) ∧ As (w' = W.alloc (.cells zero41 41 (0, 0))))
 case atStart => exact ⟨rfl, ⟨rfl⟩, ⟨rfl⟩⟩
 case round =>
  obtain ⟨rfl, HK, HW⟩ := hrel
  obtain rfl := HW.out
  have HR2 : As ((W.alloc (.cells zero41 41 (0, 0))).rangeAt gl (n * 11) x) := ⟨range_heap HR.out (Below.heap_alloc _ _ _ hgll)⟩
  have hs41 : (Tryz.prog.info? 41).map (·.size) = some x.length := by rw [hln]; exact size41
  have hmul : 11 * n = n * 11 := Nat.mul_comm _ _
  go_wp2_with (first | (refine wpList_load_mid rfl 41 (.tmp 33) rfl gl (n * 11) rfl x _ HR2.out Tryz.underlying41 rfl hs41 ?_) | (refine wpList_store_mid rfl 41 (.tmp 2) (.tmp 34) rfl W.heap.size 0 x.toArray rfl rfl (there_block (blk_new W _) 0 _ (by rw [List.size_toArray, hln]; decide)) (by rw [List.size_toArray]; exact hs41) (all_oneCell_toArray hone) ?_))
  (try simp only [Exit.inBlock, Exit.then])
  refine bodyPost_ret (results_cell_tmp_row rfl _ _ W.heap.size 41 x.toArray (0, 0) _ rfl (row_over (xs := zero41) (t := 41) (blk_new W _) (by rw [hln]; rfl)) Tryz.underlying41 rfl (by rw [List.size_toArray]; exact hs41)) rfl ?_
  exact ⟨x, rfl, HX.out.mono (fun k hk _ => hk.1.1.1), ((Below.refl _ W).alloc (Nat.le_refl _) _).trans (setCells_below _ (Nat.le_refl _))⟩
end
def downTo (j : Nat) : List Nat := (List.range' (16 - j) j).reverse
theorem downTo_succ (j : Nat) (h : j < 16) : downTo (j + 1) = downTo j ++ [15 - j] := by
 unfold downTo
 rw [List.range'_succ, List.reverse_cons]
 have e1 : 16 - (j + 1) + 1 = 16 - j := by omega
 have e2 : 16 - (j + 1) = 15 - j := by omega
 rw [e1, e2]
set_option maxHeartbeats 4000000 in
set_option maxRecDepth 100000 in
theorem turn_a {W : World} {OD : Nat → Prop} {jb db : Nat} {vs : Value} {safe : Int} {s : St} (h : JBlk W jb db vs safe) (hd : Disk W OD db 512 s) (hl : LitS s) (hj : ¬ OD jb) (hdl : ∀ k, OD k → k < W.heap.size) (no : Nat) (hno : no < 32) (po : Option Addr)
  (hcur : Calls Tryz.prog 34 #[.pointer (some ⟨jb, 0, none⟩)] W fun e W' => e = .returned (.pointer po) ∧ Below W.heap.size W W')
  (hcp : (po = none ∧ no = 0) ∨ ∃ (p n : Nat), po = some ⟨p, 0, none⟩ ∧ W.cell? ⟨p, 0, none⟩ = some (.int .u32 n) ∧ p < W.heap.size ∧ no = n + 1) (first : Nat) (hf : first < 1000000) (hw : s.wait.length < 900000) :
  Calls Tryz.prog 50 #[.pointer (some ⟨jb, 0, none⟩), .int .u64 first] W fun e W' => ∃ (q : Nat) (ON : Nat → Prop), e = .returned (.tuple #[ptrV q, .int .i64 0]) ∧ JBlk W' jb db vs safe ∧
   Disk W' (fun k => OD k ∨ (W.heap.size ≤ k ∧ k < W'.heap.size ∧ ¬ ON k)) db 512 (laid s no (img0 no first) (downTo 16)) ∧ (∃ ve, SegAt W' ON q ⟨no, first, []⟩ (img0 no first) [21] ve (.slice none 0 0)) ∧
   (∀ k, ON k → W.heap.size ≤ k ∧ k < W'.heap.size) ∧ Frame (fun k => OD k ∨ k = jb) W W' := by
 have HC := As.mk hcur
 have H := As.mk h
 have D := As.mk hd
 have HDL := As.mk hdl
 have HP := As.mk hcp
 clear h hd hcur hdl hcp
 -- the ways to the number meet at the call of 'fresh'
 go_enter Tryz.func50, Tryz.ntmps50
 go_upto_region 2 with fail
 go_wp2_with fail
 refine HC.out.mono ?_
 rintro e w1 ⟨rfl, q1⟩
 have B1 := As.mk q1
 have H1 : As (JBlk w1 jb db vs safe) := ⟨(q1.block jb (blk_lt H.out)).trans H.out⟩
 have D1 : As (Disk w1 OD db 512 s) := ⟨D.out.keep (fun k _ hk => q1.block k hk)⟩
 have HP1 : As ((po = none ∧ no = 0) ∨ ∃ (p n : Nat), po = some ⟨p, 0, none⟩ ∧ w1.cell? ⟨p, 0, none⟩ = some (.int .u32 n) ∧ no = n + 1) := ⟨by
  rcases HP.out with h | ⟨p, n, a, b, c, d⟩
  ·exact .inl h
  ·exact .inr ⟨p, n, a, by rw [World.cell?_of_block (w := W) (a := ⟨p, 0, none⟩) (q1.block p c)]; exact b, d⟩⟩
 have hs1 := q1.size
 clear q1 HC H D HP
 go_upto_if 15 with fail
 go_cut [6] from 16 to 20 (fun v6 wc => v6 = .int .u32 no ∧ As (wc = w1))
 case first =>
  rcases HP1.out with ⟨rfl, rfl⟩ | ⟨p, n, rfl, hc, rfl⟩
  ·go_wp2_with fail
   go_meet
   case rel => exact ⟨rfl, ⟨rfl⟩⟩
  ·have hw1 : IntKind.u32.wrap ((n : Int) + 1) = ((n + 1 : Nat) : Int) := by simp [IntKind.wrap, IntKind.bits, IntKind.signed]; omega
   go_wp2_with fail
   go_meet
   case rel => exact ⟨by first | rfl | rw [hw1] | (congr 1; omega) | go_num, ⟨rfl⟩⟩
 case rest =>
  obtain ⟨rfl, HW⟩ := hcut
  obtain rfl := HW.out
  clear HP1
  go_wp2_with fail
  refine (fresh_a no first (by omega) (by omega) wc).mono ?_
  rintro e w2 ⟨q, rfl, ⟨ve, q1⟩, q2⟩
  have S := As.mk q1
  have B2 := As.mk q2
  have hs2 := q2.size
  have H2 := As.mk ((q2.block jb (blk_lt H1.out)).trans H1.out)
  have D2 : As (Disk w2 OD db 512 s) := ⟨D1.out.keep (fun k _ hk => q2.block k hk)⟩
  have hjl := blk_lt H1.out
  clear q1 q2 H1 D1
  have hil := img0_len no first
  go_wp2_with fail
  obtain ⟨b2, hb2⟩ : ∃ b2, b2 = w2.heap.size := ⟨_, rfl⟩
  have HB2 := As.mk hb2
  have hz8 := zero148
  have hOD : ∀ k, OD k → k < wc.heap.size := fun k hk => by have := HDL.out k hk; omega
  have hok : ByteOk (img0 no first) := S.out.iok
  clear hb2
  go_loopg [9] 16 (fun gk v9 w' => ∃ (j : Nat) (s' : St), v9 = .int .i64 (15 - (j : Int)) ∧ As (j ≤ 16) ∧ As (gk = 16 - j) ∧ As (s' = laid s no (img0 no first) (downTo j)) ∧ As (JBlk w' jb db vs safe) ∧
    As (Disk w' (fun k => OD k ∨ (b2 ≤ k ∧ k < w'.heap.size)) db 512 s') ∧ As (Frame (fun k => OD k ∨ k = jb) w2 w'))
  case atStart =>
   exact ⟨0, s, rfl, ⟨by omega⟩, ⟨rfl⟩, ⟨rfl⟩, H2, ⟨D2.out.mono (fun k hk _ => .inl hk)⟩, ⟨Frame.refl _ _⟩⟩
  case round =>
   obtain ⟨j, s', rfl, HI', HK, HS', HJB, HD', HF⟩ := hrel
   have hii := HI'.out
   have S1 : As (SegAt wr (fun k => wc.heap.size ≤ k ∧ k < w2.heap.size) q ⟨no, first, []⟩ (img0 no first) [21] ve (.slice none 0 0)) := ⟨S.out.keep (fun k hk hlk => HF.out.block k hlk (fun h => by
    rcases h with h | h
    ·have := hOD k h; omega
    ·omega)) HF.out.low.size⟩
   by_cases hlt : j < 16
   ·have hji : ((15 - j : Nat) : Int) = 15 - (j : Int) := by omega
    have hblk := blkF_len hil (i := 15 - j) (by omega)
    have hls : LitS s' := by rw [HS'.out]; exact laid_lit _ hl
    have hdl : (downTo j).length = j := by simp [downTo]
    have hws : s'.wait.length < 1000000 := by rw [HS'.out, laid_wait, hdl]; omega
    have hs76' : (Tryz.prog.info? 76).map (·.size) = some (bv (img0 no first)).length := by rw [bv_len, hil]; exact size76
    have hIR := As.mk S1.out.img_range
    have hge : (0 : Int) ≤ 15 - (j : Int) := by omega
    have HPART := part_a hil (15 - j) (by omega) wr
    rw [hji] at HPART
    have HPART := As.mk HPART
    go_wp2_with (refine wpList_load_mid rfl 76 (.tmp 30) rfl q 2 rfl (bv (img0 no first)) _ hIR.out Tryz.underlying76 rfl hs76' ?_)
    refine HPART.out.mono ?_
    rintro e wa ⟨rfl, q1⟩
    have QA := As.mk q1
    have hsa := q1.size
    have honeb := bv_one (blkF (img0 no first) (15 - j))
    have hs148 : (Tryz.prog.info? 148).map (·.size) = some (bv (blkF (img0 no first) (15 - j))).toArray.size := by rw [List.size_toArray, bv_len, hblk]; exact size148
    have hs148' : (bv (blkF (img0 no first) (15 - j))).toArray.size = 64 := by rw [List.size_toArray, bv_len, hblk]
    clear q1 hs76' HPART
    go_upto_region 10 with (refine wpList_store_mid rfl 148 (.tmp 10) (.tmp 33) rfl wa.heap.size 0 (bv (blkF (img0 no first) (15 - j))).toArray rfl rfl (there_block (blk_new wa _) 0 _ (by rw [hs148', List.size_toArray, bv_len, zero64_len]; exact Nat.le_refl _)) hs148 (all_oneCell_toArray honeb) ?_)
    obtain ⟨b10, hb10⟩ : ∃ b10, b10 = wa.heap.size := ⟨_, rfl⟩
    have h10 : As (((wa.alloc (.cells (bv zero64).toArray 148)).setCells wa.heap.size 0 (bv (blkF (img0 no first) (15 - j)))).heap[wa.heap.size]? = some (.cells (bv (blkF (img0 no first) (15 - j))).toArray 148 (0, 0))) := ⟨row_over (blk_new wa _) (by rw [List.size_toArray, bv_len, bv_len, zero64_len, hblk])⟩
    have hBb : As (Below wr.heap.size wr ((wa.alloc (.cells (bv zero64).toArray 148)).setCells wa.heap.size 0 (bv (blkF (img0 no first) (15 - j))))) := ⟨(QA.out.alloc hsa _).trans (setCells_below _ hsa)⟩
    generalize (wa.alloc (.cells (bv zero64).toArray 148)).setCells wa.heap.size 0 (bv (blkF (img0 no first) (15 - j))) = wb at *
    rw [← hb10] at h10 hsa ⊢
    clear QA hs148 hs148' honeb hb10
    have hsbb := hBb.out.size
    have hsr := HF.out.low.size
    have HXB : As (Bytes wb (some ⟨b10, 0, none⟩) (blkF (img0 no first) (15 - j))) := ⟨⟨blkF_ok hok _, fun _ => ⟨b10, 0, rfl, blk_lt h10.out, fun i v hv => by
     rw [Nat.zero_add, blk_cell h10.out, List.getElem?_toArray]
     exact hv⟩⟩⟩
    have HJB := As.mk ((hBb.out.block jb (by omega)).trans HJB.out)
    have HDb : As (Disk wb (fun k => OD k ∨ (b2 ≤ k ∧ k < wr.heap.size)) db 512 s') := ⟨HD'.out.keep (fun k _ hlk => hBb.out.block k hlk)⟩
    have HFb : As (Frame (fun k => OD k ∨ k = jb) w2 wb) := ⟨HF.out.trans (Frame.of_below hBb.out (Nat.le_refl _)) (fun _ _ h => h)⟩
    have HPUT := put_j (W := wb) (OD := fun k => OD k ∨ (b2 ≤ k ∧ k < wr.heap.size)) HJB.out HDb.out hls (fun h => by rcases h with h | h; exact hj h; have := HB2.out; omega) no (15 - j) hno (by omega) HXB.out hblk 64 hws
    rw [hji] at HPUT
    have HPUT := As.mk HPUT
    go_wp2_with fail
    refine HPUT.out.mono ?_
    rintro e wd ⟨rfl, q1, q2, q3⟩
    have hsc := q3.low.size
    have HJB := As.mk q1
    have HDc : As (Disk wd (fun k => OD k ∨ (b2 ≤ k ∧ k < wd.heap.size)) db 512 (wrS s' (no * 16 + (15 - j)) (blkF (img0 no first) (15 - j)))) := ⟨q2.mono (fun k hk hlk => by
     rcases hk with (hk | hk) | hk
     ·exact .inl hk
     ·exact .inr ⟨hk.1, hlk⟩
     ·exact .inr ⟨by have := HB2.out; omega, hlk⟩)⟩
    have HFc : As (Frame (fun k => OD k ∨ k = jb) w2 wd) := ⟨HFb.out.trans q3 (fun k hk h => by
     rcases h with (h | h) | h
     ·exact .inl h
     ·have := HB2.out; omega
     ·exact .inr h)⟩
    clear q1 q2 q3 HPUT
    have hsub : IntKind.i64.wrap (15 - (j : Int) - 1) = 15 - ((j + 1 : Nat) : Int) := by simp [IntKind.wrap, IntKind.bits, IntKind.signed]; omega
    go_wp2_with fail
    go_roundg (16 - (j + 1))
    case measure => have := HK.out; omega
    case rel =>
     refine ⟨j + 1, wrS s' (no * 16 + (15 - j)) (blkF (img0 no first) (15 - j)), ?_, ⟨by omega⟩, ⟨rfl⟩, ⟨?_⟩, HJB, HDc, HFc⟩
     ·first | rfl | rw [hsub] | (congr 1; omega)
     ·rw [HS'.out, downTo_succ j hlt, laid_snoc]
   ·have hj16 : j = 16 := by omega
    subst hj16
    go_wp2_with fail
    go_ret2
    have hsr := HF.out.low.size
    refine ⟨q, (fun k => wc.heap.size ≤ k ∧ k < w2.heap.size), rfl, HJB.out, ?_, ⟨ve, S1.out⟩, fun k hk => ⟨by omega, by omega⟩, ?_⟩
    ·rw [← HS'.out]
     exact HD'.out.mono (fun k hk hlk => by
      rcases hk with hk | hk
      ·exact .inl hk
      ·exact .inr ⟨by have := HB2.out; omega, hlk, fun h => by have := HB2.out; omega⟩)
    ·exact ((Frame.of_below (own := fun k => OD k ∨ k = jb) B1.out (Nat.le_refl _)).trans (Frame.of_below (own := fun k => OD k ∨ k = jb) B2.out (Nat.le_refl _)) (fun _ _ h => h)).trans HF.out (fun _ _ h => h)
end Go.Proofs.YthfjhgdiakciaaaGreat.Bl
/- Plans in memory; may a step be (right), may a plan be (Check). Condition: the steps are some that the law's plans have. -/
namespace Go.Proofs.YthfjhgdiakciaaaGreat.Bl
open Go.RowKit
set_option linter.unusedVariables false
set_option linter.unusedSimpArgs false
/-- A step of a plan; it is tried twice, and waited for five ticks. -/
structure Stp where
 what : Int
 n : Int
 name : List Int
 back : Bool
def stC (s : Stp) (a : Option Addr) (c : Nat) : List Value := [.int .i64 s.what, .int .i64 s.n, .slice a s.name.length c, .int .i64 2, .int .i64 5, .bool s.back]
def NameOk (x : List Int) : Prop := 1 ≤ x.length ∧ x.length ≤ 3 ∧ ∀ y ∈ x, 97 ≤ y ∧ y ≤ 122
structure StpOk (s : Stp) : Prop where
 kind : ((s.what = 1 ∨ s.what = 3) ∧ 1 ≤ s.n ∧ s.n ≤ 2 ∧ NameOk s.name) ∨ ((s.what = 2 ∨ s.what = 4) ∧ s.n = 0 ∧ s.name = []) ∨ (s.what = 5 ∧ 1 ≤ s.n ∧ s.n ≤ 2 ∧ s.name = []) ∨ (s.what = 6 ∧ s.n = 0 ∧ NameOk s.name)
def StpAt (W : World) (own : Nat → Prop) (s : Stp) (c : List Value) : Prop := ∃ a k, c = stC s a k ∧ Bytes W a s.name ∧ s.name.length ≤ k ∧ (s.name ≠ [] → AddrIn own a)
/-- A plan. -/
def PlanAt (W : World) (own : Nat → Prop) (v : Value) (p : List Stp) : Prop :=
 ∃ cs : List (List Value), cs.length = p.length ∧ W.ownsRow 0 112 6 v p.length cs.flatten ∧ (∀ g, v.ownBlock = some g → own g) ∧ ∀ (i : Nat) (s : Stp), p[i]? = some s → ∃ c, cs[i]? = some c ∧ StpAt W (fun k => own k ∧ ¬ v.ownBlock = some k) s c
theorem StpAt.keep {W W' : World} {own : Nat → Prop} {s : Stp} {c : List Value} (h : StpAt W own s c) (hk : ∀ k, own k → k < W.heap.size → W'.heap[k]? = W.heap[k]?) (hs : W.heap.size ≤ W'.heap.size) : StpAt W' own s c := by
 obtain ⟨a, k, h1, h2, h3, h4⟩ := h
 refine ⟨a, k, h1, ?_, h3, h4⟩
 by_cases e : s.name = []
 ·rw [e]; exact ⟨(fun y hy => nomatch hy), fun h => absurd rfl h⟩
 ·exact h2.keep (fun q o ha hq => hk q (h4 e q o ha) hq) hs
theorem StpAt.mono {W : World} {own own' : Nat → Prop} {s : Stp} {c : List Value} (h : StpAt W own s c) (hs : ∀ k, own k → k < W.heap.size → own' k) : StpAt W own' s c := by
 obtain ⟨a, k, h1, h2, h3, h4⟩ := h
 refine ⟨a, k, h1, h2, h3, fun hn q o ha => ?_⟩
 obtain ⟨q', o', e1, e2, _⟩ := h2.2 hn
 have : q = q' := by rw [ha] at e1; injection e1 with e1; injection e1
 exact hs q (h4 hn q o ha) (by omega)
theorem PlanAt.keep {W W' : World} {own : Nat → Prop} {v : Value} {p : List Stp} (h : PlanAt W own v p) (hk : ∀ k, own k → k < W.heap.size → W'.heap[k]? = W.heap[k]?) (hs : W.heap.size ≤ W'.heap.size) : PlanAt W' own v p := by
 obtain ⟨cs, h1, h2, h3, h4⟩ := h
 refine ⟨cs, h1, own_keep h2 (fun g hg hl => hk g (h3 g hg) hl), h3, fun i e he => ?_⟩
 obtain ⟨c, a, b⟩ := h4 i e he
 exact ⟨c, a, b.keep (fun k hk' hl => hk k hk'.1 hl) hs⟩
theorem PlanAt.mono {W : World} {own own' : Nat → Prop} {v : Value} {p : List Stp} (h : PlanAt W own v p) (hs : ∀ k, own k → k < W.heap.size → own' k) : PlanAt W own' v p := by
 obtain ⟨cs, h1, h2, h3, h4⟩ := h
 refine ⟨cs, h1, h2, fun g hg => hs g (h3 g hg) (own_lt h2 g hg), fun i e he => ?_⟩
 obtain ⟨c, a, b⟩ := h4 i e he
 exact ⟨c, a, b.mono (fun k hk' hl => ⟨hs k hk'.1 hl, hk'.2⟩)⟩
theorem PlanAt.below {W W' : World} {own : Nat → Prop} {v : Value} {p : List Stp} (h : PlanAt W own v p) {B : Nat} (hb : Below B W W') (ho : ∀ k, own k → k < B) : PlanAt W' own v p := h.keep (fun k hk _ => hb.block k (ho k hk)) hb.size
theorem StpAt.len {W : World} {own : Nat → Prop} {s : Stp} {c : List Value} (h : StpAt W own s c) : c.length = 6 := by
 obtain ⟨a, k, rfl, _⟩ := h; rfl
theorem StpAt.one {W : World} {own : Nat → Prop} {s : Stp} {c : List Value} (h : StpAt W own s c) : ∀ v ∈ c, v.oneCell' = true := by
 obtain ⟨a, k, rfl, _⟩ := h
 intro v hv
 simp only [stC, List.mem_cons, List.not_mem_nil, or_false] at hv
 rcases hv with rfl | rfl | rfl | rfl | rfl | rfl <;> rfl
theorem size112 : (Tryz.prog.info? 112).map (·.size) = some 6 := by kernel_rfl
/-- A step's place in a plan. -/
theorem PlanAt.at {W : World} {own : Nat → Prop} {v : Value} {p : List Stp} (h : PlanAt W own v p) {i : Nat} {s : Stp} (hs : p[i]? = some s) : ∃ g c x, v = .slice (some ⟨g, 0, none⟩) p.length c ∧ g < W.heap.size ∧ own g ∧ StpAt W own s x ∧ W.rangeAt g (i * 6) x := by
 obtain ⟨cs, h1, h2, h3, h4⟩ := h
 obtain ⟨x, a, b⟩ := h4 i s hs
 have hil := (List.getElem?_eq_some_iff.1 hs).1
 obtain ⟨g, c, rfl, hc, hgl⟩ := h2.form (by omega)
 refine ⟨g, c, x, rfl, hgl, h3 g rfl, b.mono (fun k hk _ => hk.1), own_range h2 (i * 6) x (fun j v hv => ?_)⟩
 have hall : ∀ y ∈ cs, y.length = 6 := fun y hy => by
  obtain ⟨j, hj, rfl⟩ := List.getElem_of_mem hy
  obtain ⟨c', a', b'⟩ := h4 j (p[j]'(by omega)) (List.getElem?_eq_getElem (by omega))
  rw [List.getElem?_eq_getElem hj] at a'
  injection a' with a'
  rw [a']; exact b'.len
 have hj : j < 6 := by
  have := (List.getElem?_eq_some_iff.1 hv).1
  rw [b.len] at this; exact this
 rw [chunk_get (show 0 < 6 by omega) cs hall, show (i * 6 + j) / 6 = i by omega, show (i * 6 + j) % 6 = j by omega, a]
 exact hv
theorem counts_1 (k : Int) (h : k = 1 ∨ k = 3 ∨ k = 5) (W : World) : Calls Tryz.prog 110 #[.int .i64 k] W fun e W' => e = .returned (.bool true) ∧ W = W' := by
 rcases h with rfl | rfl | rfl <;>
 ·go_enter Tryz.func110, Tryz.ntmps110
  go_wp2_with fail
  go_ret
  exact ⟨rfl, rfl⟩
theorem counts_0 (k : Int) (h : k = 2 ∨ k = 4 ∨ k = 6) (W : World) : Calls Tryz.prog 110 #[.int .i64 k] W fun e W' => e = .returned (.bool false) ∧ W = W' := by
 rcases h with rfl | rfl | rfl <;>
 ·go_enter Tryz.func110, Tryz.ntmps110
  go_wp2_with fail
  go_ret
  exact ⟨rfl, rfl⟩
theorem named_1 (k : Int) (h : k = 1 ∨ k = 3 ∨ k = 6) (W : World) : Calls Tryz.prog 111 #[.int .i64 k] W fun e W' => e = .returned (.bool true) ∧ W = W' := by
 rcases h with rfl | rfl | rfl <;>
 ·go_enter Tryz.func111, Tryz.ntmps111
  go_wp2_with fail
  go_ret
  exact ⟨rfl, rfl⟩
theorem named_0 (k : Int) (h : k = 2 ∨ k = 4 ∨ k = 5) (W : World) : Calls Tryz.prog 111 #[.int .i64 k] W fun e W' => e = .returned (.bool false) ∧ W = W' := by
 rcases h with rfl | rfl | rfl <;>
 ·go_enter Tryz.func111, Tryz.ntmps111
  go_wp2_with fail
  go_ret
  exact ⟨rfl, rfl⟩
/-- A text that is not empty. -/
def Said (e : Ending) (W W' : World) : Prop := ∃ s : ByteArray, e = .returned (.string s) ∧ (!s.toList.isEmpty) = true ∧ W = W'
theorem words_a (k : Int) (h : k = 1 ∨ k = 2 ∨ k = 3 ∨ k = 4 ∨ k = 5 ∨ k = 6) (W : World) : Calls Tryz.prog 113 #[.int .i64 k] W fun e W' => Said e W W' := by
 rcases h with rfl | rfl | rfl | rfl | rfl | rfl <;>
 ·go_enter Tryz.func113, Tryz.ntmps113
  go_wp2_with fail
  go_ret
  exact ⟨_, rfl, by rw [Lib.toList_data]; rfl, rfl⟩
set_option maxHeartbeats 1000000 in
theorem name_a (x : List Int) (h : NameOk x) (W : World) : Calls Tryz.prog 112 #[.string (strOfNums x)] W fun e W' => e = .returned (.bool true) ∧ Below W.heap.size W W' := by
 obtain ⟨h1, h2, h3⟩ := h
 obtain ⟨s, hs⟩ : ∃ s, s = strOfNums x := ⟨_, rfl⟩
 have hsz : s.size = x.length := by rw [hs, strOfNums_size]
 have hb : As (∀ i (hi : i < s.size), 97 ≤ (s[i]'hi).toNat ∧ (s[i]'hi).toNat ≤ 122) := ⟨fun i hi => by
  subst hs
  have hi' : i < x.length := by omega
  have e : (strOfNums x)[i]'hi = UInt8.ofNat x[i].toNat := by
   show (strOfNums x).data[i]'hi = _
   simp [strOfNums]
  have := h3 x[i] (List.getElem_mem hi')
  rw [e]
  have e2 : (UInt8.ofNat x[i].toNat).toNat = x[i].toNat := by
   rw [UInt8.toNat_ofNat']
   omega
  rw [e2]
  omega⟩
 have hne : (!s.toList.isEmpty) = true := by
  have : s.toList.length = s.size := by rw [Lib.toList_data]; rfl
  cases hl : s.toList with
  | nil => rw [hl] at this; simp at this; omega
  | cons a b => rfl
 have hsz1 : decide ((s.size : Int) ≤ 32) = true := decide_eq_true (by omega)
 have hsz0 : 1 ≤ s.size := by omega
 rw [← hs]
 clear hs hsz h1 h2 h3
 go_enter Tryz.func112, Tryz.ntmps112
 go_wp2_with fail
 go_loopg [] s.size (fun g wx => ∃ i : Nat, i + g = s.size ∧ wx = W.iter s i)
 case atStart => exact ⟨0, by omega, rfl⟩
 case round =>
  obtain ⟨i, hig, rfl⟩ := hrel
  cases gk with
  | zero =>
   obtain rfl : i = s.size := by omega
   have hnx := fun ty => run_next_end (P := Tryz.prog) W s s.size ty
   go_wp2
   go_ret
   exact ⟨rfl, (Below.refl _ _).alloc (Nat.le_refl _) _⟩
  | succ g =>
   have hi : i < s.size := by omega
   have ha := hb.out i hi
   have hnx := fun ty => run_next_ascii (P := Tryz.prog) W s i ty hi (by omega)
   go_wp2
   go_roundg g
   case measure => omega
   case rel => exact ⟨i + 1, by omega, rfl⟩
set_option maxHeartbeats 2000000 in
set_option maxRecDepth 100000 in
/-- May a step be? -/
theorem right_a {W : World} {own : Nat → Prop} {s : Stp} {c : List Value} (h : StpAt W own s c) (hs : StpOk s) (W' : World) (hk : ∀ k, own k → k < W.heap.size → W'.heap[k]? = W.heap[k]?) (hsz : W.heap.size ≤ W'.heap.size) :
  Calls Tryz.prog 76 #[.agg c.toArray] W' fun e W1 => e = .returned (.bool true) ∧ Below W'.heap.size W' W1 := by
 have h := h.keep hk hsz
 clear hk hsz
 obtain ⟨a, k, rfl, hb, hc, _⟩ := h
 obtain ⟨what, n, name, back⟩ := s
 have hok := hs.kind
 simp only at hok hb hc
 have hcv : ∀ o1 o2, (convert 39 9 (.slice a name.length k)).run Tryz.prog ((W'.alloc o1).alloc o2) = .ok (.string (strOfNums name)) ((W'.alloc o1).alloc o2) := fun o1 o2 => conv_bytes (hb.below (((Below.refl _ W').alloc (Nat.le_refl _) o1).alloc (by simp) o2) (Nat.le_refl _)) k
 clear hs hb h
 unfold stC
 simp only
 rcases hok with ⟨rfl | rfl, h1, h2, h3⟩ | ⟨rfl | rfl, rfl, rfl⟩ | ⟨rfl, h1, h2, rfl⟩ | ⟨rfl, rfl, h3⟩
 ·have C := counts_1 1 (by omega)
  have N := named_1 1 (by omega)
  have Wd := words_a 1 (by omega)
  have HN := As.mk (name_a name h3)
  clear h3
  go_enter Tryz.func76, Tryz.ntmps76
  go_wp2_with (first | (go_at_call 110; refine (C _).mono ?_; rintro e w1 ⟨rfl, rfl⟩) | (go_at_call 111; refine (N _).mono ?_; rintro e w1 ⟨rfl, rfl⟩) | (go_at_call 113; refine (Wd _).mono ?_; rintro e w1 ⟨st, rfl, hst, rfl⟩))
  refine (HN.out _).mono ?_
  rintro e w1 ⟨rfl, q1⟩
  have hB := ((((Below.refl _ W').alloc (Nat.le_refl _) _).alloc (by simp) _).trans (q1.mono (by simp; omega)))
  have e1 := (q1.block W'.heap.size (by simp; omega)).trans (heap_alloc2_old W' _ _)
  have e2 := (q1.block (W'.heap.size + 1) (by simp)).trans (heap_alloc2_new W' _ _)
  have c3 := (blk_cell e1 3).trans rfl
  have c4 := (blk_cell e1 4).trans rfl
  have c0 := (blk_cell e2 0).trans rfl
  clear e1 e2 q1 hcv
  go_wp2_with (first | (go_at_call 113; refine (Wd _).mono ?_; rintro e w1 ⟨st, rfl, hst, rfl⟩))
  go_ret
  exact ⟨rfl, hB⟩
 ·have C := counts_1 3 (by omega)
  have N := named_1 3 (by omega)
  have Wd := words_a 3 (by omega)
  have HN := As.mk (name_a name h3)
  clear h3
  go_enter Tryz.func76, Tryz.ntmps76
  go_wp2_with (first | (go_at_call 110; refine (C _).mono ?_; rintro e w1 ⟨rfl, rfl⟩) | (go_at_call 111; refine (N _).mono ?_; rintro e w1 ⟨rfl, rfl⟩) | (go_at_call 113; refine (Wd _).mono ?_; rintro e w1 ⟨st, rfl, hst, rfl⟩))
  refine (HN.out _).mono ?_
  rintro e w1 ⟨rfl, q1⟩
  have hB := ((((Below.refl _ W').alloc (Nat.le_refl _) _).alloc (by simp) _).trans (q1.mono (by simp; omega)))
  have e1 := (q1.block W'.heap.size (by simp; omega)).trans (heap_alloc2_old W' _ _)
  have e2 := (q1.block (W'.heap.size + 1) (by simp)).trans (heap_alloc2_new W' _ _)
  have c3 := (blk_cell e1 3).trans rfl
  have c4 := (blk_cell e1 4).trans rfl
  have c0 := (blk_cell e2 0).trans rfl
  clear e1 e2 q1 hcv
  go_wp2_with (first | (go_at_call 113; refine (Wd _).mono ?_; rintro e w1 ⟨st, rfl, hst, rfl⟩))
  go_ret
  exact ⟨rfl, hB⟩
 ·have C := counts_0 2 (by omega)
  have N := named_0 2 (by omega)
  have Wd := words_a 2 (by omega)
  go_enter Tryz.func76, Tryz.ntmps76
  go_wp2_with (first | (go_at_call 110; refine (C _).mono ?_; rintro e w1 ⟨rfl, rfl⟩) | (go_at_call 111; refine (N _).mono ?_; rintro e w1 ⟨rfl, rfl⟩) | (go_at_call 113; refine (Wd _).mono ?_; rintro e w1 ⟨st, rfl, hst, rfl⟩))
  go_ret
  exact ⟨rfl, ((Below.refl _ _).alloc (Nat.le_refl _) _).alloc (by simp) _⟩
 ·have C := counts_0 4 (by omega)
  have N := named_0 4 (by omega)
  have Wd := words_a 4 (by omega)
  go_enter Tryz.func76, Tryz.ntmps76
  go_wp2_with (first | (go_at_call 110; refine (C _).mono ?_; rintro e w1 ⟨rfl, rfl⟩) | (go_at_call 111; refine (N _).mono ?_; rintro e w1 ⟨rfl, rfl⟩) | (go_at_call 113; refine (Wd _).mono ?_; rintro e w1 ⟨st, rfl, hst, rfl⟩))
  go_ret
  exact ⟨rfl, ((Below.refl _ _).alloc (Nat.le_refl _) _).alloc (by simp) _⟩
 ·have C := counts_1 5 (by omega)
  have N := named_0 5 (by omega)
  have Wd := words_a 5 (by omega)
  go_enter Tryz.func76, Tryz.ntmps76
  go_wp2_with (first | (go_at_call 110; refine (C _).mono ?_; rintro e w1 ⟨rfl, rfl⟩) | (go_at_call 111; refine (N _).mono ?_; rintro e w1 ⟨rfl, rfl⟩) | (go_at_call 113; refine (Wd _).mono ?_; rintro e w1 ⟨st, rfl, hst, rfl⟩))
  go_ret
  exact ⟨rfl, ((Below.refl _ _).alloc (Nat.le_refl _) _).alloc (by simp) _⟩
 ·have C := counts_0 6 (by omega)
  have N := named_1 6 (by omega)
  have Wd := words_a 6 (by omega)
  have HN := As.mk (name_a name h3)
  clear h3
  go_enter Tryz.func76, Tryz.ntmps76
  go_wp2_with (first | (go_at_call 110; refine (C _).mono ?_; rintro e w1 ⟨rfl, rfl⟩) | (go_at_call 111; refine (N _).mono ?_; rintro e w1 ⟨rfl, rfl⟩) | (go_at_call 113; refine (Wd _).mono ?_; rintro e w1 ⟨st, rfl, hst, rfl⟩))
  refine (HN.out _).mono ?_
  rintro e w1 ⟨rfl, q1⟩
  have hB := ((((Below.refl _ W').alloc (Nat.le_refl _) _).alloc (by simp) _).trans (q1.mono (by simp; omega)))
  have e1 := (q1.block W'.heap.size (by simp; omega)).trans (heap_alloc2_old W' _ _)
  have e2 := (q1.block (W'.heap.size + 1) (by simp)).trans (heap_alloc2_new W' _ _)
  have c3 := (blk_cell e1 3).trans rfl
  have c4 := (blk_cell e1 4).trans rfl
  have c0 := (blk_cell e2 0).trans rfl
  clear e1 e2 q1 hcv
  go_wp2_with (first | (go_at_call 113; refine (Wd _).mono ?_; rintro e w1 ⟨st, rfl, hst, rfl⟩))
  go_ret
  exact ⟨rfl, hB⟩
structure PlanOk (p : List Stp) : Prop where
 l1 : 1 ≤ p.length
 l2 : p.length ≤ 16
 ok : ∀ s ∈ p, StpOk s
set_option maxHeartbeats 2000000 in
set_option maxRecDepth 100000 in
/-- May a plan be? -/
theorem pcheck_a {W : World} {own : Nat → Prop} {v : Value} {p : List Stp} (h : PlanAt W own v p) (hp : PlanOk p) :
  Calls Tryz.prog 30 #[v] W fun e W1 => e = .returned (.int .i64 0) ∧ Below W.heap.size W W1 := by
 obtain ⟨hl1, hl2, hok⟩ := hp
 obtain ⟨g, c, _, rfl, hgl, _⟩ := h.at (List.getElem?_eq_getElem (show 0 < p.length by omega))
 have H := As.mk h
 have HOK := As.mk hok
 clear h hok
 go_enter Tryz.func30, Tryz.ntmps30
 go_wp2_with fail
 go_loopg [15] p.length (fun gk v15 w' => ∃ i : Nat, v15 = .int .i64 i ∧ As (gk = p.length - i) ∧ As (i ≤ p.length) ∧ As (Below W.heap.size W w'))
 case atStart => exact ⟨0, rfl, ⟨rfl⟩, ⟨Nat.zero_le _⟩, ⟨Below.refl _ _⟩⟩
 case round =>
  obtain ⟨i, rfl, HK, HI, HB⟩ := hrel
  have hs := HB.out.size
  by_cases hlt : i < p.length
  ·obtain ⟨g', c', x, hv, _, _, hx, hr⟩ := H.out.at (List.getElem?_eq_getElem hlt)
   injection hv with e1 _ e2
   injection e1 with e1
   injection e1 with e1
   subst e1 e2
   have hr1 := As.mk (range_heap hr (HB.out.block g hgl))
   have HR := As.mk (right_a hx (HOK.out _ (List.getElem_mem hlt)))
   obtain ⟨a, k, rfl, _⟩ := hx
   clear hr
   unfold stC at *
   generalize p[i] = s at *
   generalize s.name.length = nl at *
   go_wp2_with (refine wpList_load_mid rfl 112 (.tmp 17) rfl g (i * 6) rfl _ _ hr1.out Tryz.underlying112 rfl size112 ?_)
   refine (HR.out _ (fun k hk hlk => ?_) ?_).mono ?_
   ·exact (Below.heap_alloc _ _ _ (by omega)).trans (HB.out.block k hlk)
   ·simp; omega
   rintro e w1 ⟨rfl, q1⟩
   have HB1 : As (Below W.heap.size W w1) := ⟨(HB.out.alloc hs _).trans (q1.mono (by simp; omega))⟩
   clear q1
   go_wp2_with fail
   go_roundg (p.length - (i + 1))
   case measure => have := HK.out; omega
   case rel => exact ⟨i + 1, by go_num, ⟨rfl⟩, ⟨by omega⟩, HB1⟩
  ·have hi : i = p.length := by have := HI.out; omega
   subst hi
   go_wp2_with fail
   go_ret
   exact ⟨rfl, HB.out⟩
end Go.Proofs.YthfjhgdiakciaaaGreat.Bl
/- entry.Put and entry.Get of the law's entries, each as one contract. Condition: the entry is one of those that the law makes. -/
namespace Go.Proofs.YthfjhgdiakciaaaGreat.Bl
open Go.RowKit
set_option linter.unusedVariables false
set_option linter.unusedSimpArgs false
theorem entF_len2 {e : Ent} (h : e.kind = 2) (hk : e.key.length = 1) (hd : e.data.length = 1) : (entF e).length = 21 := by
 unfold entF; rw [if_pos h]; simp [be_len, hk, hd]
theorem entF_len3 {e : Ent} (h : e.kind = 3) : (entF e).length = 20 := by
 unfold entF; rw [if_neg (by omega), if_pos h]; simp [be_len]
theorem entF_len4 {e : Ent} (h : e.kind = 4) : (entF e).length = 21 := by
 unfold entF; rw [if_neg (by omega), if_neg (by omega)]; simp [be_len]
theorem EntOk.len {e : Ent} (h : EntOk e) : 20 ≤ (entF e).length ∧ (entF e).length ≤ 21 := by
 rcases h.kind with ⟨k, a, b, _⟩ | ⟨k, _⟩ | ⟨k, _⟩
 ·rw [entF_len2 k a b]; omega
 ·rw [entF_len3 k]; omega
 ·rw [entF_len4 k]; omega
theorem EntOk.bytes {e : Ent} (h : EntOk e) : ByteOk (entF e) := by
 rcases h.kind with ⟨k, a, b, ka, kb, _⟩ | ⟨k, _⟩ | ⟨k, _⟩
 ·unfold entF; rw [if_pos k]
  exact ((((((((be_ok _ _).app (be_ok _ _)).app (be_ok _ _)).app (be_ok _ _)).app (be_ok _ _)).app ka).app (be_ok _ _)).app kb)
 ·unfold entF; rw [if_neg (by omega), if_pos k]
  exact ((((((be_ok _ _).app (be_ok _ _)).app (be_ok _ _)).app (be_ok _ _)).app (be_ok _ _)).app (be_ok _ _)).app (be_ok _ _)
 ·unfold entF; rw [if_neg (by omega), if_neg (by omega)]
  exact (((((((be_ok _ _).app (be_ok _ _)).app (be_ok _ _)).app (be_ok _ _)).app (be_ok _ _)).app (be_ok _ _)).app (be_ok _ _)).app (be_ok _ _)
theorem EntOk.body {e : Ent} (h : EntOk e) : BodyOk (entF e) := ⟨by have := h.len; omega, by have := h.len; omega, h.bytes⟩
theorem eput_a {W : World} {own : Nat → Prop} {e : Ent} {c : List Value} (h : EntOk e) (hc : EntAt W own e c) :
  Calls Tryz.prog 45 #[.agg c.toArray] W fun x W' => ∃ v, x = .returned (.tuple #[v, .int .i64 0]) ∧ W'.ownsRow W.heap.size 5 1 v (entF e).length (bv (entF e)) ∧ Below W.heap.size W W' := by
 obtain ⟨ak, ck, ad, cd, rfl, hk, hd, _⟩ := hc
 rcases h.kind with ⟨k, a, b, ka, kb, k1, k2, k3, k4⟩ | ⟨k, a, b, c1, c2, d1, d2, f⟩ | ⟨k, a, b, c1, c2, d1, d2, f1, f2⟩
 ·rw [entF_len2 k a b]
  obtain ⟨q, o, rfl, hq, _⟩ := hk.2 (by intro e; rw [e] at a; cases a)
  obtain ⟨q2, o2, rfl, hq2, _⟩ := hd.2 (by intro e; rw [e] at b; cases b)
  have := put2_a e.lsn e.order q o ck q2 o2 cd e.key e.data h.lsn h.order (by omega) (by omega) hk hd hq hq2
  rw [show 19 + e.key.length + e.data.length = 21 by omega] at this
  unfold entF
  simp only [entC, k, k1, k2, k3, k4, if_true]
  exact this
 ·rw [entF_len3 k]
  have := put3_a e.lsn e.order e.step e.tr e.undo ak ad ck cd h.lsn h.order ⟨c1, c2⟩ ⟨d1, d2⟩ (W := W)
  unfold entF
  rw [if_neg (by omega), if_pos k]
  simp only [entC, k, a, b, f]
  exact this
 ·rw [entF_len4 k]
  have := put4_a e.lsn e.order e.step e.tr e.code e.undo ak ad ck cd h.lsn h.order ⟨c1, c2⟩ ⟨d1, d2⟩ ⟨f1, f2⟩ (W := W)
  unfold entF
  rw [if_neg (by omega), if_neg (by omega)]
  simp only [entC, k, a, b]
  exact this
theorem own_bytes {W : World} {base n g c : Nat} {x : List Int} (h : W.ownsRow base 5 1 (.slice (some ⟨g, 0, none⟩) n c) n (bv x)) (hx : ByteOk x) : Bytes W (some ⟨g, 0, none⟩) x ∧ x.length = n ∧ n ≤ c ∧ base ≤ g ∧ g < W.heap.size := by
 obtain ⟨_, _, _, hc, _⟩ := own_block h
 exact ⟨bytes_of_own h hx, by have := h.1; rw [bv_len] at this; omega, hc, (h.lt g rfl).1, (h.lt g rfl).2⟩
theorem eget_a {W : World} {e : Ent} (h : EntOk e) {q o : Nat} (hx : Bytes W (some ⟨q, o, none⟩) (entF e)) (hq : q < W.heap.size) (c0 : Nat) :
  Calls Tryz.prog 52 #[.slice (some ⟨q, o, none⟩) (entF e).length c0] W fun x W' => ∃ c, x = .returned (.tuple #[.agg c.toArray, .int .i64 0]) ∧ EntAt W' (fun k => W.heap.size ≤ k) e c ∧ Below W.heap.size W W' := by
 rcases h.kind with ⟨k, a, b, ka, kb, k1, k2, k3, k4⟩ | ⟨k, a, b, c1, c2, d1, d2, f⟩ | ⟨k, a, b, c1, c2, d1, d2, f1, f2⟩
 ·rw [entF_len2 k a b]
  have hx' : Bytes W (some ⟨q, o, none⟩) (be 2 1 ++ (be e.lsn 8 ++ (be 1 4 ++ (be e.order 4 ++ (be e.key.length 1 ++ e.key ++ (be e.data.length 1 ++ e.data ++ [])))))) := by
   unfold entF at hx
   rw [if_pos k] at hx
   simpa using hx
  have := get2_a e.lsn e.order e.key e.data h.lsn h.order (by omega) (by omega) hx' hq c0
  rw [show 19 + e.key.length + e.data.length = 21 by omega] at this
  refine this.mono ?_
  rintro x W' ⟨gk, ck, gd, cd, rfl, r1, r2, r3⟩
  obtain ⟨b1, b2, b3, b4, b5⟩ := own_bytes r1 ka
  obtain ⟨d1, d2, d3, d4, d5⟩ := own_bytes r2 kb
  refine ⟨entC e (some ⟨gk, 0, none⟩) ck (some ⟨gd, 0, none⟩) cd, ?_, ⟨_, _, _, _, rfl, b1, d1, b3, d3, fun _ q' o' e1 => ?_, fun _ q' o' e1 => ?_⟩, r3⟩
  ·simp only [entC, k, k1, k2, k3, k4]
  ·injection e1 with e1; injection e1 with e1; omega
  ·injection e1 with e1; injection e1 with e1; omega
 ·rw [entF_len3 k]
  have hx' : Bytes W (some ⟨q, o, none⟩) (be 3 1 ++ (be e.lsn 8 ++ (be 1 4 ++ (be e.order 4 ++ (be e.step 1 ++ (be (bitF e.undo) 1 ++ (be e.tr 1 ++ []))))))) := by
   unfold entF at hx
   rw [if_neg (by omega), if_pos k] at hx
   simpa using hx
  refine (get3_a e.lsn e.order e.step e.tr e.undo h.lsn h.order ⟨c1, c2⟩ ⟨d1, d2⟩ hx' hq c0).mono ?_
  rintro x W' ⟨rfl, r3⟩
  refine ⟨entC e none 0 none 0, ?_, ⟨_, _, _, _, rfl, ⟨by rw [a]; exact (fun y hy => nomatch hy), fun h => absurd a h⟩, ⟨by rw [b]; exact (fun y hy => nomatch hy), fun h => absurd b h⟩, by rw [a]; exact Nat.le_refl _, by rw [b]; exact Nat.le_refl _, fun h => absurd a h, fun h => absurd b h⟩, r3⟩
  simp only [entC, k, a, b, f]
  rfl
 ·rw [entF_len4 k]
  have hx' : Bytes W (some ⟨q, o, none⟩) (be 4 1 ++ (be e.lsn 8 ++ (be 1 4 ++ (be e.order 4 ++ (be e.step 1 ++ (be (bitF e.undo) 1 ++ (be e.tr 1 ++ (be e.code 1 ++ [])))))))) := by
   unfold entF at hx
   rw [if_neg (by omega), if_neg (by omega)] at hx
   simpa using hx
  refine (get4_a e.lsn e.order e.step e.tr e.code e.undo h.lsn h.order ⟨c1, c2⟩ ⟨d1, d2⟩ ⟨f1, f2⟩ hx' hq c0).mono ?_
  rintro x W' ⟨rfl, r3⟩
  refine ⟨entC e none 0 none 0, ?_, ⟨_, _, _, _, rfl, ⟨by rw [a]; exact (fun y hy => nomatch hy), fun h => absurd a h⟩, ⟨by rw [b]; exact (fun y hy => nomatch hy), fun h => absurd b h⟩, by rw [a]; exact Nat.le_refl _, by rw [b]; exact Nat.le_refl _, fun h => absurd a h, fun h => absurd b h⟩, r3⟩
  simp only [entC, k, a, b]
  rfl
end Go.Proofs.YthfjhgdiakciaaaGreat.Bl
/- A journal, as it is said: its segments as they may be; the last entry, the last number, the last segment, empty or not. Condition: the journal lies in memory as it is told. -/
namespace Go.Proofs.YthfjhgdiakciaaaGreat.Bl
open Go.RowKit
set_option linter.unusedVariables false
set_option linter.unusedSimpArgs false
structure SegOk (s : Seg) : Prop where
 ne : 0 < s.l.length
 ok : ∀ e ∈ s.l, EntOk e
 lsn : ∀ (i : Nat) (e : Ent), s.l[i]? = some e → e.lsn = ((s.first + i : Nat) : Int)
 fit : endF s ≤ 1024
 f1 : 1 ≤ s.first
 f2 : s.first < 100000
 n1 : s.no < 32
 len : s.l.length < 1000
/-- The number of the next entry. -/
def nextL (segs : List Seg) : Nat := match segs.getLast? with
 | none => 1
 | some c => c.first + c.l.length
structure SegsOk (segs : List Seg) : Prop where
 all : ∀ (i : Nat) (s : Seg), segs[i]? = some s → SegOk s ∧ s.no = i
 chain : ∀ (i : Nat) (s t : Seg), segs[i]? = some s → segs[i + 1]? = some t → t.first = s.first + s.l.length
 head : ∀ s, segs[0]? = some s → s.first = 1
/-- The row of segments, empty or not. -/
def JV (W : World) (own : Nat → Prop) (vs : Value) (segs : List Seg) : Prop :=
 (segs = [] ∧ vs = .slice none 0 0) ∨ ∃ old cur ps p B, segs = old ++ [cur] ∧ JS W own vs old cur ps p B
theorem JV.keep {W W' : World} {own : Nat → Prop} {vs : Value} {segs : List Seg} (h : JV W own vs segs) (hk : ∀ k, own k → k < W.heap.size → W'.heap[k]? = W.heap[k]?) (hs : W.heap.size ≤ W'.heap.size) : JV W' own vs segs := by
 rcases h with h | ⟨old, cur, ps, p, B, e, h⟩
 ·exact .inl h
 ·exact .inr ⟨old, cur, ps, p, B, e, h.keep hk hs⟩
theorem JV.mono {W : World} {own own' : Nat → Prop} {vs : Value} {segs : List Seg} (h : JV W own vs segs) (hs : ∀ k, own k → k < W.heap.size → own' k) : JV W own' vs segs := by
 rcases h with h | ⟨old, cur, ps, p, B, e, h⟩
 ·exact .inl h
 ·exact .inr ⟨old, cur, ps, p, B, e, h.mono hs⟩
theorem SegsOk.cur {old : List Seg} {cur : Seg} (h : SegsOk (old ++ [cur])) : SegOk cur ∧ cur.no = old.length := h.all old.length cur (by rw [List.getElem?_append_right (Nat.le_refl _), Nat.sub_self]; rfl)
theorem SegsOk.len {old : List Seg} {cur : Seg} (h : SegsOk (old ++ [cur])) : old.length < 32 := by
 obtain ⟨a, b⟩ := h.cur
 have := a.n1
 omega
theorem nextL_snoc (old : List Seg) (cur : Seg) : nextL (old ++ [cur]) = cur.first + cur.l.length := by unfold nextL; rw [List.getLast?_concat]
section
variable {W : World} {own : Nat → Prop} {jb db : Nat} {vs : Value} {safe : Int} {segs : List Seg}
theorem last8_v (h : JBlk W jb db vs safe) (hj : JV W own vs segs) (ho : SegsOk segs) :
  Calls Tryz.prog 8 #[.pointer (some ⟨jb, 0, none⟩)] W fun e W' => e = .returned (.int .u64 ((nextL segs - 1 : Nat) : Int)) ∧ Below W.heap.size W W' := by
 rcases hj with ⟨rfl, rfl⟩ | ⟨old, cur, ps, p, B, rfl, hj⟩
 ·exact last_none h
 ·obtain ⟨a, b⟩ := ho.cur
  have := ho.len
  rw [nextL_snoc]
  exact last_a h hj (by omega) ⟨by have := a.f1; omega, by have := a.f2; omega⟩ (by have := a.len; omega)
end
/-- No entry (last). -/
theorem lastE_none {W : World} {jb db : Nat} {safe : Int} (h : JBlk W jb db (.slice none 0 0) safe) :
  Calls Tryz.prog 46 #[.pointer (some ⟨jb, 0, none⟩)] W fun x W' => x = .returned (.tuple #[.agg zero41, .bool false]) ∧ Below W.heap.size W W' := by
 obtain ⟨_, _, c2, _, _⟩ := h.cells
 have hz : ∀ w, (zeroValue 41).run Tryz.prog w = .ok (.agg zero41) w := fun w => by kernel_rfl
 have hjbl := blk_lt h
 clear h
 go_enter Tryz.func46, Tryz.ntmps46
 go_wp2_with fail
 go_loopg [4] 1 (fun gk v4 w' => v4 = .int .i64 (-1) ∧ As (gk = 1) ∧ As (w' = W.alloc (.cells zero41 41 (0, 0))))
 case atStart => exact ⟨rfl, ⟨rfl⟩, ⟨rfl⟩⟩
 case round =>
  obtain ⟨rfl, HK, HW⟩ := hrel
  obtain rfl := HW.out
  have hone : ∀ v ∈ zero41.toList, v.oneCell' = true := agg11_one rfl rfl rfl rfl rfl rfl rfl rfl rfl rfl rfl
  go_wp2_with (refine wpList_store_mid rfl 41 (.tmp 2) (.tmp 35) rfl W.heap.size 0 zero41 rfl rfl (there_block (blk_new W _) 0 _ (by decide)) size41 (all_oneCell_toArray hone) ?_)
  (try simp only [Exit.inBlock, Exit.then])
  refine bodyPost_ret (results_cell_tmp_row rfl _ _ W.heap.size 41 zero41 (0, 0) _ rfl (row_over (xs := zero41) (t := 41) (blk_new W _) rfl) Tryz.underlying41 rfl size41) rfl ?_
  exact ⟨rfl, ((Below.refl _ W).alloc (Nat.le_refl _) _).trans (setCells_below _ (Nat.le_refl _))⟩
/-- What 'last' hands back. -/
def LastE (segs : List Seg) (c : List Value) (b : Bool) : Prop := c.length = 11 ∧ (∀ v ∈ c, v.oneCell' = true) ∧ (b = false ∨ (b = true ∧ ∃ e W own, EntAt W own e c ∧ EntOk e ∧ e.lsn = ((nextL segs - 1 : Nat) : Int)))
theorem lastE_v {W : World} {own : Nat → Prop} {jb db : Nat} {vs : Value} {safe : Int} {segs : List Seg} (h : JBlk W jb db vs safe) (hj : JV W own vs segs) (ho : SegsOk segs) :
  Calls Tryz.prog 46 #[.pointer (some ⟨jb, 0, none⟩)] W fun x W' => ∃ c b, x = .returned (.tuple #[.agg c.toArray, .bool b]) ∧ LastE segs c b ∧ Below W.heap.size W W' := by
 rcases hj with ⟨rfl, rfl⟩ | ⟨old, cur, ps, p, B, rfl, hj⟩
 ·refine (lastE_none h).mono ?_
  rintro e w ⟨rfl, q⟩
  exact ⟨zero41.toList, false, rfl, ⟨rfl, agg11_one rfl rfl rfl rfl rfl rfl rfl rfl rfl rfl rfl, .inl rfl⟩, q⟩
 ·obtain ⟨a, b⟩ := ho.cur
  have hl := ho.len
  have hne := a.ne
  have hg : cur.l[cur.l.length - 1]? = some (cur.l[cur.l.length - 1]'(by omega)) := List.getElem?_eq_getElem (by omega)
  refine (lastE_a h hj (by omega) (by have := a.len; omega) (n := cur.l.length - 1) (by omega) hg).mono ?_
  rintro e w ⟨c, rfl, q1, q2⟩
  refine ⟨c, true, rfl, ⟨q1.len, q1.one, .inr ⟨rfl, _, W, own, q1, a.ok _ (List.getElem_mem (by omega)), ?_⟩⟩, q2⟩
  rw [a.lsn _ _ hg, nextL_snoc]
  omega
end Go.Proofs.YthfjhgdiakciaaaGreat.Bl
/- What one more entry makes of a journal; an entry in a row of them. Plain, and small laws. No condition. -/
namespace Go.Proofs.YthfjhgdiakciaaaGreat.Bl
open Go.RowKit
set_option linter.unusedVariables false
set_option linter.unusedSimpArgs false
def turnS (s : St) (sg : Seg) : St := laid s sg.no (img0 sg.no sg.first) (downTo 16)
def layS (s : St) (sg : Seg) (e : Ent) : St := laid s sg.no (imgF (sg.add e)) (List.range' (endF sg / 64) ((endF sg + (8 + (entF e).length) + 63) / 64 - endF sg / 64))
def newSeg (segs : List Seg) : Seg := ⟨segs.length, nextL segs, []⟩
/-- Must there be a new segment? -/
def turnsF (segs : List Seg) (e : Ent) : Bool := match segs.getLast? with
 | none => true
 | some cur => decide (1024 < endF cur + (8 + (entF e).length))
/-- The segments ahead, the one that is laid into, the disk. -/
def preS (segs : List Seg) (s : St) (e : Ent) : List Seg × Seg × St :=
 if turnsF segs e = true then (segs, newSeg segs, turnS s (newSeg segs))
 else match segs.getLast? with
  | none => (segs, newSeg segs, s)
  | some cur => (segs.dropLast, cur, s)
def appS (segs : List Seg) (s : St) (e : Ent) : List Seg × St := ((preS segs s e).1 ++ [(preS segs s e).2.1.add e], layS (preS segs s e).2.2 (preS segs s e).2.1 e)
theorem turnsF_snoc (old : List Seg) (cur : Seg) (e : Ent) : turnsF (old ++ [cur]) e = decide (1024 < endF cur + (8 + (entF e).length)) := by unfold turnsF; rw [List.getLast?_concat]
theorem preS_stay (old : List Seg) (cur : Seg) (s : St) (e : Ent) (h : turnsF (old ++ [cur]) e = false) : preS (old ++ [cur]) s e = (old, cur, s) := by
 unfold preS
 rw [if_neg (by rw [h]; decide), List.getLast?_concat]
 simp
theorem preS_turn (segs : List Seg) (s : St) (e : Ent) (h : turnsF segs e = true) : preS segs s e = (segs, newSeg segs, turnS s (newSeg segs)) := by
 unfold preS; rw [if_pos h]
/-- The slice of segments, as a row. -/
theorem JV.row {W : World} {own : Nat → Prop} {vs : Value} {segs : List Seg} (h : JV W own vs segs) : ∃ ps : List Nat, ps.length = segs.length ∧ W.ownsRow 0 79 1 vs segs.length (ps.map ptrV) ∧ (∀ g, vs.ownBlock = some g → own g) ∧ (∃ A c, vs = .slice A segs.length c) ∧ ∀ (i : Nat) (sg : Seg), segs[i]? = some sg → ∃ q, ps[i]? = some q ∧ SegP W (fun k => own k ∧ ¬ vs.ownBlock = some k) q sg := by
 rcases h with ⟨rfl, rfl⟩ | ⟨old, cur, ps, p, B, rfl, h⟩
 ·exact ⟨[], rfl, World.ownsRow_nil _ _ _ _, fun g hg => by simp [Value.ownBlock] at hg, ⟨none, 0, rfl⟩, fun i sg hi => by simp at hi⟩
 ·refine ⟨ps ++ [p], by simp [h.len], by simpa using h.row, h.vo, ?_, fun i sg hi => ?_⟩
  ·obtain ⟨g, c, hv, _⟩ := h.row.form (by omega)
   exact ⟨some ⟨g, 0, none⟩, c, by rw [hv]; simp⟩
  ·by_cases hlt : i < old.length
   ·rw [List.getElem?_append_left hlt] at hi
    obtain ⟨q, a, b⟩ := h.olds i sg hi
    exact ⟨q, by rw [List.getElem?_append_left (by rw [h.len]; exact hlt)]; exact a, b.mono (fun k hk _ => hk.1)⟩
   ·have : i = old.length := by
     have := (List.getElem?_eq_some_iff.1 hi).1
     rw [List.length_append] at this
     simp at this
     omega
    subst this
    rw [List.getElem?_append_right (Nat.le_refl _), Nat.sub_self] at hi
    obtain rfl : cur = sg := by simpa using hi
    exact ⟨p, by rw [List.getElem?_append_right (by rw [h.len]; exact Nat.le_refl _), h.len, Nat.sub_self]; rfl, h.cur.mono (fun k hk _ => hk.1)⟩
/-- One entry more. -/
theorem EntRow.app {W' : World} {own' : Nat → Prop} {l : List Ent} {g cap : Nat} {e : Ent} {c : List Value} {cs : List (List Value)} (h1 : cs.length = l.length)
  (h4 : ∀ (i : Nat) (e : Ent), l[i]? = some e → ∃ c, cs[i]? = some c ∧ EntAt W' (fun k => own' k ∧ ¬ (Value.slice (some ⟨g, 0, none⟩) (l.length + 1) cap).ownBlock = some k) e c)
  (hn : W'.ownsRow 0 41 11 (.slice (some ⟨g, 0, none⟩) (l.length + 1) cap) (l.length + 1) (cs.flatten ++ c)) (hg : own' g) (he : EntAt W' (fun k => own' k ∧ ¬ (Value.slice (some ⟨g, 0, none⟩) (l.length + 1) cap).ownBlock = some k) e c) : EntRow W' own' (.slice (some ⟨g, 0, none⟩) (l.length + 1) cap) (l ++ [e]) := by
 refine ⟨cs ++ [c], by simp [h1], ?_, fun g' hg' => by rw [← ob_eq hg']; exact hg, fun i x hx => ?_⟩
 ·have e1 : (cs ++ [c]).flatten = cs.flatten ++ c := by simp
  rw [e1, List.length_append]
  exact hn
 ·by_cases hi : i < l.length
  ·rw [List.getElem?_append_left hi] at hx
   obtain ⟨y, a, b⟩ := h4 i x hx
   exact ⟨y, by rw [List.getElem?_append_left (by omega)]; exact a, b⟩
  ·have : i = l.length := by
    have := (List.getElem?_eq_some_iff.1 hx).1
    rw [List.length_append] at this
    simp at this
    omega
   subst this
   rw [List.getElem?_append_right (Nat.le_refl _), Nat.sub_self] at hx
   obtain rfl : e = x := by simpa using hx
   exact ⟨c, by rw [List.getElem?_append_right (by omega), h1, Nat.sub_self]; rfl, he⟩
theorem info41 : (Tryz.prog.info? 41).map (fun i => (i.zero, i.size, i.bytes)) = some (some (.agg zero41), 11, 112) := by kernel_rfl
set_option maxRecDepth 100000 in
theorem wp_build35 {o : Oper} {a : Act} {w : World} {K : Act → World → Prop} {Q : Exit → Act → World → Prop} (x : Operand) (ho : o.op = .buildSlice 35 1 #[(0, x)]) (cs : List Value) (hx : a.eval x = .agg cs.toArray) (hl : cs.length = 11)
  (h : K (a.put o.dst (.slice (some ⟨w.heap.size, 0, none⟩) 1 1)) (w.alloc (.cells cs.toArray 41 (0, 0)))) : o.wp Tryz.prog a w K Q := by
 obtain ⟨i0, hi, hz0, hz1, hz2⟩ := info_parts info41
 refine wp_buildSlice 35 41 1 #[(0, x)] ho cs.toArray i0 _ Tryz.underlying35 hi hz0 (by rw [hz1]; decide) (by rw [hz1]; decide) ?_ h
 have := Great.fill_whole (s := 11) (by omega) [.agg cs.toArray] ((Array.range (1 * i0.size)).map ((Value.agg zero41).cells[· % (Value.agg zero41).cells.size]!)) (fun v hv => by
  obtain rfl : v = .agg cs.toArray := by simpa using hv
  show cs.toArray.size = 11
  rw [List.size_toArray, hl]) (by simp [hz1])
 rw [hz1] at this ⊢
 simp only [List.flatMap_cons, List.flatMap_nil, List.append_nil] at this
 refine Eq.trans ?_ (this.trans ?_)
 ·congr 1
  simp [hx]
 ·rfl
end Go.Proofs.YthfjhgdiakciaaaGreat.Bl
