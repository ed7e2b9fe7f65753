/- A disk opened as a journal (Open). Condition: the disk is lit, and its slots hold segments' frames, or noughts. -/
import Derived.Test.YthfjhgdiakciaaaGreatM22
namespace Go.Proofs.YthfjhgdiakciaaaGreat.Bl
open Go.RowKit
set_option linter.unusedVariables false
set_option linter.unusedSimpArgs false
/-- The first b blocks of a slot. -/
def partI (now : List (List Int)) (i b : Nat) : List Int := ((now.drop (16 * i)).take b).flatten
def slotI (now : List (List Int)) (i : Nat) : List Int := partI now i 16
theorem flat64_len : ∀ {l : List (List Int)}, All64 l → l.flatten.length = 64 * l.length
 | [], _ => rfl
 | x :: r, h => by
  rw [List.flatten_cons, List.length_append, flat64_len (fun y hy => h y (List.mem_cons_of_mem _ hy)), h x List.mem_cons_self, List.length_cons]
  omega
theorem partI_len {now : List (List Int)} (h : All64 now) {i b : Nat} (hb : 16 * i + b ≤ now.length) : (partI now i b).length = 64 * b := by
 unfold partI
 rw [flat64_len (fun y hy => h y (List.mem_of_mem_drop (List.mem_of_mem_take hy))), List.length_take, List.length_drop]
 congr 1
 omega
theorem partI_ok {now : List (List Int)} (h : Allb now) (i b : Nat) : ByteOk (partI now i b) := fun y hy => by
 obtain ⟨x, hx, hy⟩ := List.mem_flatten.1 hy
 exact h x (List.mem_of_mem_drop (List.mem_of_mem_take hx)) y hy
theorem partI_zero (now : List (List Int)) (i : Nat) : partI now i 0 = [] := by unfold partI; rw [List.take_zero]; rfl
theorem partI_succ (now : List (List Int)) (i b : Nat) (h : 16 * i + b < now.length) : partI now i (b + 1) = partI now i b ++ now[16 * i + b] := by
 unfold partI
 rw [List.take_add_one, List.getElem?_drop, List.getElem?_eq_getElem h, List.flatten_append]
 simp
theorem putI_over (Z p x : List Int) (h : p.length + x.length ≤ Z.length) : putI (over Z p) p.length x = over Z (p ++ x) := by
 unfold putI over
 rw [List.take_left' rfl, List.append_assoc, List.length_append]
 congr 2
 rw [List.drop_append, List.drop_of_length_le (by omega), List.nil_append, List.drop_drop]
 congr 1
 omega
/-- What the disk's slots hold. -/
structure Slots (now : List (List Int)) (segs : List Seg) : Prop where
 lt : segs.length < 32
 sgs : ∀ (i : Nat) (s : Seg), segs[i]? = some s → ∃ t, slotI now i = bodyF s ++ t ∧ Tail t ∧ (i + 1 < segs.length → slotI now i = imgF s)
 rest : ∀ i, i < 32 → segs.length ≤ i → slotI now i = zeros 1024
/-- The first m slots' segments in memory. -/
structure Read (W : World) (L B : Nat) (now : List (List Int)) (segs : List Seg) (ps : List Nat) (m : Nat) : Prop where
 lb : L ≤ B
 bl : B ≤ W.heap.size
 len : ps.length = min m segs.length
 segs : ∀ (j : Nat) (s : Seg), j < m → segs[j]? = some s → ∃ q ve vl, ps[j]? = some q ∧ SegAt W (fun k => L ≤ k ∧ (j + 1 < ps.length → k < B) ∧ (j + 1 = ps.length → B ≤ k)) q s (slotI now j) (endsF s) ve vl
theorem Read.keep {W W' : World} {L B : Nat} {now : List (List Int)} {segs : List Seg} {ps : List Nat} {m : Nat} (h : Read W L B now segs ps m) (hb : ∀ k, L ≤ k → k < W.heap.size → W'.heap[k]? = W.heap[k]?) (hs : W.heap.size ≤ W'.heap.size) : Read W' L B now segs ps m :=
 ⟨h.lb, Nat.le_trans h.bl hs, h.len, fun j s hj hs' => by
  obtain ⟨q, ve, vl, a, b⟩ := h.segs j s hj hs'
  exact ⟨q, ve, vl, a, b.keep (fun k hk hlk => hb k hk.1 hlk) hs⟩⟩
theorem Read.more {W W' : World} {L B : Nat} {now : List (List Int)} {segs : List Seg} {ps : List Nat} {m : Nat} (h : Read W L B now segs ps m) (hm : m < segs.length) (hb : Below W.heap.size W W') {q : Nat} {s : Seg} (hsg : segs[m]? = some s)
  (hq : ∃ ve vl, SegAt W' (fun k => W.heap.size ≤ k) q s (slotI now m) (endsF s) ve vl) : Read W' L W.heap.size now segs (ps ++ [q]) (m + 1) := by
 have hl := h.len
 have hl' : ps.length = m := by omega
 have hbl := h.bl
 have hlb := h.lb
 refine ⟨by omega, hb.size, by rw [List.length_append, hl]; simp; omega, fun j s' hj hs' => ?_⟩
 have hll : (ps ++ [q]).length = m + 1 := by rw [List.length_append, hl']; rfl
 by_cases hjm : j < m
 ·obtain ⟨q', ve, vl, a, b⟩ := h.segs j s' hjm hs'
  refine ⟨q', ve, vl, by rw [List.getElem?_append_left (by omega)]; exact a, ?_⟩
  refine ((b.mono (own' := fun k => L ≤ k ∧ k < W.heap.size) (fun k hk hlk => ⟨hk.1, hlk⟩)).keep (fun k hk _ => hb.block k hk.2) hb.size).mono (fun k hk _ => ⟨hk.1, fun _ => hk.2, fun h => ?_⟩)
  omega
 ·have hjm : j = m := by omega
  subst hjm
  rw [hsg] at hs'
  injection hs' with hs'
  subst hs'
  obtain ⟨ve, vl, b⟩ := hq
  refine ⟨q, ve, vl, by rw [List.getElem?_append_right (by omega), hl', Nat.sub_self]; rfl, b.mono (fun k hk _ => ?_)⟩
  have hk' : W.heap.size ≤ k := hk
  exact ⟨by omega, fun h => by omega, fun _ => hk'⟩
theorem mk71 (n : Nat) (h : n ≤ 1024) (w : World) : (Instr.makeSlice 71 (.int .i64 (n : Int)) (.int .i64 (n : Int))).run Tryz.prog w = .ok (.slice (some ⟨w.heap.size, 0, none⟩) n n) (w.alloc (.cells (Array.replicate n (.pointer none)) 79 (0, 0))) := by
 obtain ⟨i, hi, hz, hs, hb⟩ := info_parts info79
 have hr := run_make (P := Tryz.prog) w 71 79 i _ Tryz.underlying71 hi hz .i64 .i64 n n (by omega) (Int.le_refl _) (by rw [hb]; omega) (by omega)
 simp only [Int.toNat_natCast] at hr
 have e : madeCells (Value.pointer none).cells (n * 1) = Array.replicate n (Value.pointer none) := by
  apply Array.ext
  ·simp [madeCells]
  ·intro j h1 h2
   simp [madeCells, Nat.mod_one, Value.cells]
 rw [hr, hs, e]
def foundL (ps : List Nat) : List Value := ps.map ptrV ++ List.replicate (32 - ps.length) (Value.pointer none)
theorem foundL_some (ps : List Nat) (q : Nat) (h : ps.length < 32) : (foundL ps).set ps.length (ptrV q) = foundL (ps ++ [q]) := by
 unfold foundL
 rw [List.set_append_right _ _ (by rw [List.length_map]; exact Nat.le_refl _), List.length_map, Nat.sub_self]
 obtain ⟨m, hm⟩ : ∃ m, 32 - ps.length = m + 1 := ⟨31 - ps.length, by omega⟩
 rw [hm, List.replicate_succ, List.set_cons_zero, List.map_append, List.length_append, List.append_assoc]
 rw [show 32 - (ps.length + [q].length) = m by simp; omega]
 rfl
theorem foundL_none (ps : List Nat) (i : Nat) (h : ps.length ≤ i) : (foundL ps).set i (Value.pointer none) = foundL ps := by
 unfold foundL
 rw [List.set_append_right _ _ (by rw [List.length_map]; exact h), List.length_map]
 congr 1
 apply List.ext_getElem?
 intro j
 rw [List.getElem?_set]
 split
 ·split
  ·rename_i h1 h2
   rw [List.length_replicate] at h2
   rw [List.getElem?_replicate, if_pos (by omega)]
  ·rename_i h1 h2
   rw [List.getElem?_eq_none (by omega)]
 ·rfl
theorem foundL_len (ps : List Nat) (h : ps.length ≤ 32) : (foundL ps).length = 32 := by
 unfold foundL
 rw [List.length_append, List.length_map, List.length_replicate]
 omega
/-- A slot read. -/
theorem read_slot {now : List (List Int)} {segs : List Seg} (hs : Slots now segs) (ho : SegsOk segs) (h64 : All64 now) (hb : Allb now) (hn : now.length = 512) (i : Nat) (hi : i < 32) (W : World) :
  Calls Tryz.prog 27 #[.agg (bv (slotI now i)).toArray, .int .i64 i, .int .i64 32] W fun x W' => ∃ qo, x = .returned (ptrO qo) ∧ Below W.heap.size W W' ∧ (segs.length ≤ i → qo = none) ∧
   (∀ s, segs[i]? = some s → ∃ q ve vl, qo = some q ∧ SegAt W' (fun k => W.heap.size ≤ k) q s (slotI now i) (endsF s) ve vl) := by
 by_cases h : i < segs.length
 ·have e : segs[i]? = some segs[i] := List.getElem?_eq_getElem h
  obtain ⟨t, h1, h2, _⟩ := hs.sgs i _ e
  have hl := partI_len (i := i) (b := 16) h64 (by omega)
  have := (ho.all i _ e)
  have hr := read_a this.1 h1 h2 hl (partI_ok hb i 16) W
  rw [this.2] at hr
  refine hr.mono ?_
  rintro x w ⟨p, rfl, ⟨ve, vl, a⟩, b⟩
  refine ⟨some p, rfl, b, fun h' => by omega, fun s hs' => ?_⟩
  rw [e] at hs'
  injection hs' with hs'
  subst hs'
  exact ⟨p, ve, vl, rfl, a⟩
 ·rw [hs.rest i hi (by omega)]
  refine (read_none i W).mono ?_
  rintro x w ⟨rfl, b⟩
  exact ⟨none, rfl, b, fun _ => rfl, fun s hs' => by rw [List.getElem?_eq_none (by omega)] at hs'; cases hs'⟩
/-- What Open hands back. -/
def Opened (W : World) (OD : Nat → Prop) (db : Nat) (segs : List Seg) (e : Ending) (W' : World) : Prop := ∃ (jb : Nat) (vs : Value) (safe : Int), e = .returned (.tuple #[.pointer (some ⟨jb, 0, none⟩), .int .i64 0]) ∧ W.heap.size ≤ jb ∧ JBlk W' jb db vs safe ∧
 JV W' (fun k => W.heap.size ≤ k ∧ k ≠ jb) vs segs ∧ Frame OD W W' ∧ (segs = [] → Below W.heap.size W W')
set_option maxHeartbeats 4000000 in
set_option maxRecDepth 100000 in
theorem open_a {W : World} {OD : Nat → Prop} {db : Nat} {s : St} {segs : List Seg} (hd : Disk W OD db 512 s) (hl : LitS s) (hsl : Slots s.now segs) (ho : SegsOk segs) (hdl : ∀ k, OD k → k < W.heap.size) (hw : s.wait.length < 900000) :
  Calls Tryz.prog 5 #[.pointer (some ⟨db, 0, none⟩)] W (Opened W OD db segs) := by
 have HD := As.mk hd
 have HDL := As.mk hdl
 have HSL := As.mk hsl
 have HO := As.mk ho
 have hdark := hl.dark
 have hsl32 := hsl.lt
 clear hd hdl hsl ho
 go_enter Tryz.func5, Tryz.ntmps5
 go_wp2_with fail
 refine (blocks_a HD.out).mono ?_
 rintro e w1 ⟨rfl, rfl⟩
 go_wp2_with fail
 refine (lit_a (HD.out.below ((Below.refl W.heap.size W).alloc (Nat.le_refl _) _) (Nat.le_refl _))).mono ?_
 rintro e w1 ⟨rfl, rfl⟩
 rw [hdark]
 have hmin : min (32 : Int) 64 = 32 := by decide
 have hmk : ∀ w, (Instr.makeSlice 71 (.int .i64 32) (.int .i64 32)).run Tryz.prog w = .ok (.slice (some ⟨w.heap.size, 0, none⟩) 32 32) (w.alloc (.cells (Array.replicate 32 (.pointer none)) 79 (0, 0))) := fun w => mk71 32 (by omega) w
 go_upto_region 9 with fail
 obtain ⟨jb, hjb⟩ : ∃ b, b = W.heap.size := ⟨_, rfl⟩
 obtain ⟨gf, hgf⟩ : ∃ b, b = W.heap.size + 1 := ⟨_, rfl⟩
 have J0 : As (JBlk ((W.alloc (.cells #[.pointer (some ⟨db, 0, none⟩), .int .i64 32, .slice none 0 0, .int .u64 0, .bool false] 73)).alloc (.cells (Array.replicate 32 (.pointer none)) 79)) jb db (.slice none 0 0) 0) := ⟨by rw [hjb]; exact blk_old (blk_new W _) _⟩
 have G0 : As (((W.alloc (.cells #[.pointer (some ⟨db, 0, none⟩), .int .i64 32, .slice none 0 0, .int .u64 0, .bool false] 73)).alloc (.cells (Array.replicate 32 (.pointer none)) 79)).heap[gf]? = some (.cells (Array.replicate 32 (.pointer none)) 79 (0, 0))) := ⟨by
  have h := blk_new (W.alloc (.cells #[.pointer (some ⟨db, 0, none⟩), .int .i64 32, .slice none 0 0, .int .u64 0, .bool false] 73)) (.cells (Array.replicate 32 (.pointer none)) 79 (0, 0))
  rw [World.size_alloc, ← hgf] at h
  exact h⟩
 have B0 : As (Below W.heap.size W ((W.alloc (.cells #[.pointer (some ⟨db, 0, none⟩), .int .i64 32, .slice none 0 0, .int .u64 0, .bool false] 73)).alloc (.cells (Array.replicate 32 (.pointer none)) 79))) := ⟨((Below.refl _ W).alloc (Nat.le_refl _) _).alloc (by simp) _⟩
 have hs0 : ((W.alloc (.cells #[.pointer (some ⟨db, 0, none⟩), .int .i64 32, .slice none 0 0, .int .u64 0, .bool false] 73)).alloc (.cells (Array.replicate 32 (.pointer none)) 79)).heap.size = jb + 2 := by rw [World.size_alloc, World.size_alloc, hjb]
 rw [← hgf, ← hjb]
 generalize (W.alloc (.cells #[.pointer (some ⟨db, 0, none⟩), .int .i64 32, .slice none 0 0, .int .u64 0, .bool false] 73)).alloc (.cells (Array.replicate 32 (.pointer none)) 79) = w0 at *
 obtain ⟨k0, k1, k2, k3, k4⟩ := J0.out.cells
 have HJB := As.mk hjb
 have HGF := As.mk (show gf = jb + 1 by omega)
 have HS0 := As.mk hs0
 clear hjb hgf hmk hmin hs0 hdark
 go_wp2_with fail
 clear k0 k1 k2 k3 k4
 go_loopg [38] 33 (fun gk v38 w' => ∃ (i : Nat) (ps : List Nat) (B : Nat), v38 = .int .i64 i ∧ As (gk = 33 - i) ∧ As (i ≤ 32) ∧ As (JBlk w' jb db (.slice none 0 0) 0) ∧ As (w'.heap[gf]? = some (.cells (foundL ps).toArray 79 (0, 0))) ∧ As (Read w' (jb + 2) B s.now segs ps i) ∧ As (Below W.heap.size W w'))
 case atStart =>
  refine ⟨0, [], jb + 2, rfl, ⟨rfl⟩, ⟨by omega⟩, J0, ⟨?_⟩, ⟨⟨Nat.le_refl _, by rw [HS0.out]; exact Nat.le_refl _, by simp, fun j s hj => by omega⟩⟩, B0⟩
  rw [G0.out]
  congr 2
 case round =>
  obtain ⟨i, ps, B, rfl, HK, HI, HJ, HG, HR, HB⟩ := hrel
  have hii := HI.out
  by_cases h32 : i < 32
  ·have hz76 := zero76
   have hdec : decide ((i : Int) < 32) = true := by simp; omega
   go_upto_region 13 with fail
   clear hdec
   obtain ⟨b7, hb7⟩ : ∃ b, b = wr.heap.size := ⟨_, rfl⟩
   have h7 : As ((wr.alloc (.cells (bv (zeros 1024)).toArray 76)).heap[b7]? = some (.cells (bv (zeros 1024)).toArray 76 (0, 0))) := ⟨by rw [hb7]; exact blk_new wr _⟩
   have B7 : As (Below b7 wr (wr.alloc (.cells (bv (zeros 1024)).toArray 76))) := ⟨by rw [hb7]; exact (Below.refl _ wr).alloc (Nat.le_refl _) _⟩
   rw [← hb7]
   generalize wr.alloc (.cells (bv (zeros 1024)).toArray 76) = w7 at *
   have HB7 := As.mk hb7
   have HWR := As.mk HB.out.size
   clear hb7 hz76
   go_wp2_with fail
   go_loopg [41] 17 (fun gk v41 w' => ∃ (b : Nat), v41 = .int .i64 b ∧ As (gk = 17 - b) ∧ As (b ≤ 16) ∧ As (w'.heap[b7]? = some (.cells (bv (over (zeros 1024) (partI s.now i b))).toArray 76 (0, 0))) ∧ As (Below b7 wr w'))
   case atStart =>
    refine ⟨0, rfl, ⟨rfl⟩, ⟨by omega⟩, ⟨?_⟩, B7⟩
    rw [partI_zero]
    exact h7.out
   case round =>
    rename_i wq
    obtain ⟨b, rfl, HKb, HIb, Hb, Bb⟩ := hrel
    have hib := HIb.out
    by_cases h16 : b < 16
    ·have hsr := Bb.out.size
     have hb7l := blk_lt Hb.out
     have D1 := As.mk (HD.out.below (HB.out.trans (Bb.out.mono (by have := HB7.out; have := HWR.out; omega))) (Nat.le_refl _))
     have hnow := D1.out.1.now
     have hkl : 16 * i + b < s.now.length := by omega
     have HRD := read_at (W := wr) D1.out (16 * i + b) hl.dark hkl
     have HX := As.mk (And.intro (D1.out.1.b1.1 _ (List.getElem_mem hkl)) (D1.out.1.b1.2 _ (List.getElem_mem hkl)))
     have HP := As.mk (partI_succ s.now i b hkl)
     have HPL := As.mk (partI_len (i := i) (b := b) D1.out.1.b1.1 (by omega))
     rw [show ((16 * i + b : Nat) : Int) = (i : Int) * 16 + (b : Int) by omega] at HRD
     generalize s.now[16 * i + b] = y at *
     have HRD := As.mk HRD
     have hwm : IntKind.i64.wrap ((i : Int) * 16) = (i : Int) * 16 := by rw [IntKind.wrap_i64] <;> omega
     have hwa : IntKind.i64.wrap ((i : Int) * 16 + (b : Int)) = (i : Int) * 16 + (b : Int) := by rw [IntKind.wrap_i64] <;> omega
     have hwb : IntKind.i64.wrap ((b : Int) * 64) = ((b * 64 : Nat) : Int) := by rw [IntKind.wrap_i64] <;> omega
     clear hnow hkl
     go_wp2_with fail
     refine HRD.out.mono ?_
     rintro e w9 ⟨gR, rfl, q1, q2, q3⟩
     have HGR := As.mk q1
     have h79 := As.mk ((q3.block b7 hb7l).trans Hb.out)
     have B9 := As.mk (Bb.out.trans (q3.mono (by have := HB7.out; omega)))
     clear q1 q2 q3 HRD hwm hwa
     have hsl : ∀ w', (Instr.sliceAt 76 (.pointer (some ⟨b7, 0, none⟩)) (some (.int .i64 ((b * 64 : Nat) : Int))) none none).run Tryz.prog w' = .ok (.slice (some ⟨b7, b * 64, none⟩) (1024 - b * 64) (1024 - b * 64)) w' := fun w' => slice76 b7 (b * 64) (by omega) _ rfl w'
     generalize hb64 : b * 64 = b64 at *
     have HB64 := As.mk hb64
     clear hb64
     have hone := bv_one y
     have hyl : (bv y).length = 64 := by rw [bv_len]; exact HX.out.1
     have hsrc : ∀ j v, (bv y)[j]? = some v → w9.cell? ((⟨gR, 0, none⟩ : Addr).add j) = some v := fun j v hv => by
      rw [Addr.add_mid, Nat.zero_add, blk_cell HGR.out, List.getElem?_toArray]
      exact hv
     have hpl := HPL.out
     have htt : w9.there b7 b64 (bv y).length := there_block h79.out b64 _ (by
      rw [hyl, List.size_toArray, bv_len, over_len _ _ (by rw [zeros_len]; omega), zeros_len]
      have := HB64.out; omega)
     go_wp2_with (refine wpList_copy_cells rfl (.tmp 55) (.tmp 56) 39 39 rfl 5 Tryz.underlying39 size5 b7 b64 (1024 - b64) (1024 - b64) ⟨gR, 0, none⟩ 64 64 rfl rfl (bv y) (by rw [hyl]; exact (Nat.min_eq_left (by have := HB64.out; omega)).symm) hsrc htt hone ?_)
     go_roundg (17 - (b + 1))
     case measure => have := HKb.out; omega
     case rel =>
      refine ⟨b + 1, by go_num, ⟨rfl⟩, ⟨by omega⟩, ⟨?_⟩, ⟨B9.out.trans (setCells_below _ (Nat.le_refl _))⟩⟩
      rw [setCells_same (bv y) b7 b64 w9 _ h79.out, putAt_bv _ _ _ (by rw [over_len _ _ (by rw [zeros_len]; omega), zeros_len, HX.out.1]; have := HB64.out; omega), HP.out]
      have e1 : b64 = (partI s.now i b).length := by rw [hpl, ← HB64.out]; omega
      rw [e1, putI_over _ _ _ (by rw [zeros_len, hpl, HX.out.1]; omega)]
    ·have hb16 : b = 16 := by omega
     subst hb16
     go_upto_region 19 with fail
     have hov : over (zeros 1024) (partI s.now i 16) = slotI s.now i := over_full _ _ (by
      rw [zeros_len]
      exact partI_len HD.out.1.b1.1 (by have := HD.out.1.now; omega))
     have H7 := Hb.out
     rw [hov] at H7
     have hbb := HB7.out
     have hwr := HWR.out
     have hs0 := HS0.out
     have hjbe := HJB.out
     have hgfe := HGF.out
     have hsr := Bb.out.size
     have B1 := As.mk (HB.out.trans (Bb.out.mono (by omega)))
     have hgl := blk_lt HG.out
     have hjl := blk_lt HJ.out
     have J1 := As.mk ((Bb.out.block jb (by omega)).trans HJ.out)
     have G1 := As.mk ((Bb.out.block gf (by omega)).trans HG.out)
     have R1 := As.mk (HR.out.keep (W' := wr) (fun k _ hlk => Bb.out.block k (by omega)) hsr)
     have HRS := As.mk (read_slot HSL.out HO.out HD.out.1.b1.1 HD.out.1.b1.2 HD.out.1.now i h32 wr.drew)
     have hil : (bv (slotI s.now i)).length = 1024 := by
      rw [bv_len]
      exact partI_len HD.out.1.b1.1 (by have := HD.out.1.now; omega)
     have hr7 : wr.rangeAt b7 0 (bv (slotI s.now i)) := fun j v hv => by
      rw [Nat.zero_add, blk_cell H7, List.getElem?_toArray]
      exact hv
     have HS7 := As.mk (And.intro hr7 J1.out)
     clear hr7 H7 hov hbb hs0 hjbe hgfe
     have hc32 : (0 : Int) ≤ i ∧ (i : Int) < 32 := by omega
     refine wp_region_plan_held 10 (fun w' => w'.rangeAt b7 0 (bv (slotI s.now i)) ∧ JBlk w' jb db (.slice none 0 0) 0) [(1,0),(1,1),(0,2),(1,3),(1,4),(1,5),(1,6),(0,7),(2,8),(1,9),(2,10)] (by kernel_rfl) (by kernel_rfl) (by kernel_rfl) (by kernel_rfl) (fun _ _ _ _ _ h => h) HS7.out ?_
     simp only [tagged, List.filterMap_cons, List.filterMap_nil, List.getElem?_toArray, List.getElem?_cons_succ, List.getElem?_cons_zero, Option.map_some]
     iterate 2 (refine wpHeld_sure (fun K hK => ?_); go_simp; refine hK _ ?_; clear hK K)
     refine wpHeld_take (fun K hK => ?_)
     rw [if_pos (by rfl)]
     refine ⟨.agg (bv (slotI s.now i)).toArray, fun w' hw' => ?_, hK _ ?_⟩
     ·exact exec_load_mid _ _ _ 76 (.tmp 7) rfl b7 0 rfl (bv (slotI s.now i)) _ hw'.1 Tryz.underlying76 rfl (by rw [hil]; exact size76)
     clear hK K
     iterate 4 (refine wpHeld_sure (fun K hK => ?_); go_simp; refine hK _ ?_; clear hK K)
     refine wpHeld_take (fun K hK => ?_)
     rw [if_pos (by rfl)]
     apply Exists.intro
     refine ⟨fun w' hw' => ?_, hK _ ?_⟩
     ·obtain ⟨m0, m1, m2, m3, m4⟩ := JBlk.cells hw'.2
      go_simp
      rfl
     clear hK K
     refine wpHeld_next (fun K hK => ?_)
     go_simp
     refine HRS.out.mono ?_
     rintro x w9 ⟨qo, rfl, q1, q2, q3⟩
     have hdw : wr.drew.heap.size = wr.heap.size := rfl
     rw [hdw] at q1 q3
     have B9 : As (Below wr.heap.size wr w9) := ⟨(Below.refl _ _).drew.trans q1⟩
     have Q2 := As.mk q2
     have Q3 := As.mk q3
     have J9 := As.mk ((B9.out.block jb (by omega)).trans J1.out)
     have G9 := As.mk ((B9.out.block gf (by omega)).trans G1.out)
     have hr79 : w9.rangeAt b7 0 (bv (slotI s.now i)) := range_heap HS7.out.1 (B9.out.block b7 (blk_lt Hb.out))
     have hpsl : ps.length ≤ 32 := by have := HR.out.len; omega
     have hfl := foundL_len ps hpsl
     obtain ⟨u, hu⟩ : ∃ u, ptrO qo = .pointer u := by cases qo with
      | none => exact ⟨_, rfl⟩
      | some q => exact ⟨_, rfl⟩
     have g9 := blk_frozen G9.out i
     have c9 : w9.cell? ⟨gf, i, none⟩ = some ((foundL ps)[i]'(by omega)) := by
      rw [blk_cell G9.out, List.getElem?_toArray, List.getElem?_eq_getElem]
     have HU := As.mk hu
     rw [hu]
     clear q1 q2 q3 hdw HRS hu
     refine hK _ _ (fun _ => ⟨hr79, J9.out⟩) ?_
     clear hK K
     iterate 1 (refine wpHeld_sure (fun K hK => ?_); go_simp; refine hK _ ?_; clear hK K)
     refine wpHeld_next (fun K hK => ?_)
     go_simp
     refine hK _ _ (fun h => absurd rfl h) ?_
     clear hK K
     refine wpHeld_nil ?_
     go_wp2_with fail
     go_roundg (33 - (i + 1))
     case measure => have := HK.out; omega
     case rel =>
      have hs0 := HS0.out
      have hgfe := HGF.out
      have hjbe := HJB.out
      have hgj : jb ≠ gf := by omega
      have hBl : Below W.heap.size W (w9.setCell ⟨gf, i, none⟩ (.pointer u)) := (B1.out.trans (B9.out.mono (by omega))).setCell (p := ⟨gf, i, none⟩) (by show W.heap.size ≤ gf; omega) _
      have hJ' : JBlk (w9.setCell ⟨gf, i, none⟩ (.pointer u)) jb db (.slice none 0 0) 0 := (Below.heap_setCell _ _ _ _ (show jb ≠ gf from hgj)).trans J9.out
      have hG' := blk_put G9.out i (.pointer u)
      rw [List.setIfInBounds_toArray, ← HU.out] at hG'
      have hs9 : (w9.setCell ⟨gf, i, none⟩ (.pointer u)).heap.size = w9.heap.size := by simp
      by_cases hin : i < segs.length
      ·obtain ⟨q, ve, vl, e1, hseg⟩ := Q3.out _ (List.getElem?_eq_getElem hin)
       have hpi : ps.length = i := by have := HR.out.len; omega
       subst e1
       have e2 := foundL_some ps q (by omega)
       rw [hpi] at e2
       refine ⟨i + 1, ps ++ [q], wr.heap.size, by go_num, ⟨rfl⟩, ⟨by omega⟩, ⟨hJ'⟩, ⟨?_⟩, ⟨?_⟩, ⟨hBl⟩⟩
       ·rw [← e2, ← HU.out]
        exact hG'
       ·exact (R1.out.more hin B9.out (List.getElem?_eq_getElem hin) ⟨ve, vl, hseg⟩).keep (fun k hk _ => Below.heap_setCell _ _ _ _ (show k ≠ gf by omega)) (by omega)
      ·have e1 := Q2.out (by omega)
       subst e1
       refine ⟨i + 1, ps, B, by go_num, ⟨rfl⟩, ⟨by omega⟩, ⟨hJ'⟩, ⟨?_⟩, ⟨?_⟩, ⟨hBl⟩⟩
       ·rw [← foundL_none ps i (by have := HR.out.len; omega), ← HU.out]
        exact hG'
       ·have hR := (R1.out.keep (W' := w9) (fun k hk hlk => B9.out.block k hlk) B9.out.size).keep (W' := w9.setCell ⟨gf, i, none⟩ (.pointer u)) (fun k hk _ => Below.heap_setCell _ _ _ _ (show k ≠ gf by omega)) (by omega)
        exact ⟨hR.lb, hR.bl, by have := hR.len; omega, fun j s' hj hs' => hR.segs j s' (by have := (List.getElem?_eq_some_iff.1 hs').1; omega) hs'⟩
  ·have hi : i = 32 := by omega
   subst hi
   go_wp2_with fail
   have hs0 := HS0.out
   have hjbe := HJB.out
   have hgfe := HGF.out
   have hjl := blk_lt HJ.out
   have hlen := HR.out.len
   have hRb := HR.out.bl
   have hRl := HR.out.lb
   have hFd : Found wr jb gf segs ps := by
    refine ⟨HG.out, by omega, hsl32, by omega, fun j s' hs' => ?_⟩
    obtain ⟨q, ve, vl, a, b⟩ := HR.out.segs j s' (by have := (List.getElem?_eq_some_iff.1 hs').1; omega) hs'
    exact ⟨q, _, a, ⟨_, ve, vl, b⟩, fun k hk _ => by have := hk.1; constructor <;> omega⟩
   clear hjbe hs0 hgfe
   refine (gather_a HJ.out hFd HO.out).mono ?_
   rintro x w1 ⟨rfl, vs, q1, q2, q3, q4, q5⟩
   have J1 := As.mk q1
   have R1 := As.mk q2
   have V1 := As.mk q3
   have F1 := As.mk q4
   have E1 := As.mk q5
   clear q1 q2 q3 q4 q5 hFd
   by_cases h0 : segs = []
   ·subst h0
    obtain ⟨rfl, q5⟩ := E1.out rfl
    have B1 := As.mk (HB.out.trans (q5.mono HB.out.size))
    clear E1 q5
    go_wp2_with fail
    refine (wipe_none J1.out).mono ?_
    rintro x w2 ⟨rfl, rfl⟩
    go_wp2_with fail
    refine (last_none J1.out).mono ?_
    rintro x w2 ⟨rfl, q1⟩
    have hs1 := B1.out.size
    have J2 : As (JBlk w2 jb db (.slice none 0 0) 0) := ⟨(q1.block jb (blk_lt J1.out)).trans J1.out⟩
    have B2 := As.mk (B1.out.trans (q1.mono hs1))
    obtain ⟨k0, k1, k2, k3, k4⟩ := J2.out.cells
    have g3 := blk_frozen J2.out 3
    clear q1
    go_wp2_with fail
    go_ret2
    exact ⟨jb, .slice none 0 0, 0, rfl, by rw [HJB.out]; exact Nat.le_refl _, (blk_put J2.out 3 _).trans rfl, .inl ⟨rfl, rfl⟩, Frame.of_below (B2.out.setCell (p := ⟨jb, 3, none⟩) (by rw [HJB.out]; exact Nat.le_refl _) _) (Nat.le_refl _), fun _ => B2.out.setCell (p := ⟨jb, 3, none⟩) (by rw [HJB.out]; exact Nat.le_refl _) _⟩
   ·obtain ⟨N, hN⟩ : ∃ N, segs.length = N + 1 := ⟨segs.length - 1, by
     have : 0 < segs.length := List.length_pos_iff.2 h0
     omega⟩
    obtain ⟨old, cur, hoc, hol⟩ : ∃ old cur, segs = old ++ [cur] ∧ old.length = N := ⟨segs.dropLast, segs.getLast h0, (List.dropLast_concat_getLast h0).symm, by rw [List.length_dropLast, hN]; rfl⟩
    have hcg : segs[N]? = some cur := by rw [hoc, List.getElem?_append_right (by omega), hol, Nat.sub_self]; rfl
    have hog : ∀ (j : Nat) (x : Seg), old[j]? = some x → segs[j]? = some x ∧ j < N := fun j x hx => by
     have hj := (List.getElem?_eq_some_iff.1 hx).1
     exact ⟨by rw [hoc, List.getElem?_append_left hj]; exact hx, by omega⟩
    have hpl : ps.length = N + 1 := by omega
    obtain ⟨p, vep, vlp, hpN, hsp⟩ := HR.out.segs N cur (by omega) hcg
    obtain ⟨t, ht1, ht2, _⟩ := HSL.out.sgs N cur hcg
    have hps : ps = ps.take N ++ [p] := by
     have hlt : N < ps.length := by omega
     rw [List.getElem?_eq_getElem hlt] at hpN
     injection hpN with hpN
     have e := List.take_add_one (l := ps) (i := N)
     rw [List.getElem?_eq_getElem hlt, hpN, List.take_of_length_le (by omega)] at e
     exact e
    have htl : (ps.take N).length = N := by rw [List.length_take]; omega
    have hr1 := R1.out
    rw [hN, hps] at hr1
    have hr1' : w1.ownsRow 0 79 1 vs ((ps.take N).length + 1) ((ps.take N ++ [p]).map ptrV) := by rw [htl]; exact hr1
    have hjw : jb < wr.heap.size := hjl
    have hokc := (HO.out.all N cur hcg).1
    have hsp1 : SegAt w1 (fun k => B ≤ k ∧ k < wr.heap.size) p cur (slotI s.now N) (endsF cur) vep vlp := (hsp.mono (own' := fun k => B ≤ k ∧ k < wr.heap.size) (fun k hk hlk => ⟨hk.2.2 (by omega), hlk⟩)).keep (fun k hk hlk => F1.out.block k hk.2 (by have := hk.1; show ¬ k = jb; omega)) F1.out.low.size
    have D1 := As.mk ((HD.out.below HB.out (Nat.le_refl _)).keep (W' := w1) (fun k hk hlk => F1.out.block k (by have := HB.out.size; have := HDL.out k hk; omega) (by have := HDL.out k hk; have := HJB.out; show ¬ k = jb; omega)))
    have hw1 := F1.out.low.size
    have hWr := HB.out.size
    have HWP := As.mk (wipe_a (OS := fun k => B ≤ k ∧ k < wr.heap.size) J1.out hr1' (by omega) D1.out hl (fun h => by have := HDL.out jb h; have := HJB.out; omega) hsp1 ht1 hokc (fun k hk h => by have := HDL.out k hk; have := HJB.out; have := h.1; omega) (fun h => by have := h.1; omega) (fun k hk => by have := HDL.out k hk; omega) hw)
    have hvn : ∀ k, vs.ownBlock = some k → wr.heap.size ≤ k := V1.out
    have HCG := As.mk (And.intro hoc (And.intro hol (And.intro hcg hog)))
    have HPS := As.mk (And.intro hps htl)
    have HR1 := As.mk hr1'
    have HPO : As (B ≤ p ∧ p < wr.heap.size) := ⟨hsp1.po⟩
    have HSB := As.mk hsp1.blk
    clear hr1 hr1' hsp1 ht1 ht2 hoc hol hcg hog hps htl hpN hsp E1
    go_wp2_with fail
    refine HWP.out.mono ?_
    rintro x w2 ⟨rfl, q1, q2, q3⟩
    have J2 : As (JBlk w2 jb db vs 0) := ⟨q1⟩
    have F2 := As.mk q3
    have hs2 := q3.low.size
    have hjbW : W.heap.size ≤ jb := by rw [HJB.out]; exact Nat.le_refl _
    have hV2 : As (JV w2 (fun k => W.heap.size ≤ k ∧ k ≠ jb) vs segs) := ⟨by
     obtain ⟨hoc, hol, hcg, hog⟩ := HCG.out
     obtain ⟨hps, htl⟩ := HPS.out
     refine .inr ⟨old, cur, ps.take N, p, B, hoc, ?_, by rw [htl, hol], fun g hg => ⟨by have := hvn g hg; omega, by have := hvn g hg; omega⟩, fun j x hx => ?_, ⟨vep, vlp, ?_⟩, by omega⟩
     ·have h := own_keep (W' := w2) HR1.out (fun g hg hlg => F2.out.block g hlg (fun h => by
       have h1 := hvn g hg
       rcases h with h | h | h
       ·have := HDL.out g h; omega
       ·omega
       ·exact own_ne HR1.out HSB.out (by decide) g hg h))
      rw [htl] at h
      rw [hol]
      exact h
     ·obtain ⟨h1, h2⟩ := hog j x hx
      obtain ⟨q, ve, vl, a, b⟩ := HR.out.segs j x (by omega) h1
      obtain ⟨t', u1, _, u3⟩ := HSL.out.sgs j x h1
      refine ⟨q, ?_, ve, vl, ?_⟩
      ·rw [List.getElem?_take, if_pos h2]; exact a
      ·rw [← u3 (by omega)]
       refine ((b.mono (own' := fun k => (jb + 2) ≤ k ∧ k < B ∧ k < wr.heap.size) (fun k hk hlk => ⟨hk.1, hk.2.1 (by omega), hlk⟩)).keep (W' := w2) (fun k hk _ => ?_) (by omega)).mono (fun k hk _ => ⟨⟨⟨by have := hk.1; omega, by have := hk.1; omega⟩, fun h => by have := hvn k h; have := hk.2.2; omega⟩, hk.2.1⟩)
       have h1 := hk.1
       have h2 := hk.2.1
       rw [F2.out.block k (by omega) (fun h => by
        rcases h with h | h | h
        ·have := HDL.out k h; omega
        ·omega
        ·have := HPO.out.1; omega)]
       exact F1.out.block k hk.2.2 (by show ¬ k = jb; omega)
     ·exact q2.mono (fun k hk _ => ⟨⟨⟨by have := hk.1.1; omega, by have := hk.1.1; omega⟩, fun h => by have := hvn k h; have := hk.1.2; omega⟩, hk.1.1⟩)⟩
    clear q1 q2 q3 HWP
    go_wp2_with fail
    refine (last8_v J2.out hV2.out HO.out).mono ?_
    rintro x w3 ⟨rfl, q1⟩
    have J3 : As (JBlk w3 jb db vs 0) := ⟨(q1.block jb (blk_lt J2.out)).trans J2.out⟩
    have B3 := As.mk q1
    obtain ⟨k0, k1, k2, k3, k4⟩ := JBlk.cells J3.out
    have g3 := blk_frozen J3.out 3
    generalize ((nextL segs - 1 : Nat) : Int) = lv at *
    clear q1
    go_wp2_with fail
    go_ret2
    refine ⟨jb, vs, lv, rfl, hjbW, (blk_put J3.out 3 _).trans rfl, hV2.out.keep (fun k hk hlk => (Below.heap_setCell _ _ _ _ (show k ≠ jb from hk.2)).trans (B3.out.block k hlk)) (by have := B3.out.size; simpa using this), ?_, fun h => absurd h h0⟩
    have f1 : Frame OD W wr := Frame.of_below HB.out (Nat.le_refl _)
    have f2 : Frame OD W w1 := f1.trans F1.out (fun k hk h => by have h : k = jb := h; omega)
    have f3 : Frame OD W w2 := f2.trans F2.out (fun k hk h => by
     rcases h with h | h | h
     ·exact h
     ·omega
     ·have := HPO.out.1; omega)
    have f4 : Frame OD W w3 := f3.trans (Frame.of_below (own := OD) B3.out (Nat.le_refl _)) (fun k _ h => h)
    exact f4.setCell (p := ⟨jb, 3, none⟩) (.inr hjbW) _
end Go.Proofs.YthfjhgdiakciaaaGreat.Bl
/- What a journal's disk holds: now, and behind a crash that keeps nothing of what was not flushed. Plain. No condition. -/
namespace Go.Proofs.YthfjhgdiakciaaaGreat.Bl
open Go.RowKit
set_option linter.unusedVariables false
set_option linter.unusedSimpArgs false
theorem entF_le {e : Ent} (h : EntOk e) : 0 < (entF e).length ∧ (entF e).length ≤ 21 := by
 rcases h.kind with ⟨k, a, b, _⟩ | ⟨k, _⟩ | ⟨k, _⟩
 ·unfold entF; rw [if_pos k]; simp only [List.length_append, be_len, a, b]; omega
 ·unfold entF; rw [if_neg (by omega), if_pos k]; simp only [List.length_append, be_len]; omega
 ·unfold entF; rw [if_neg (by omega), if_neg (by omega)]; simp only [List.length_append, be_len]; omega
theorem endF_nil (no first : Nat) : endF ⟨no, first, []⟩ = 21 := by
 unfold endF; rw [bodyF_nil, frameF_len, hdr_len]
theorem endF_le {no first : Nat} : ∀ (l : List Ent), (∀ e ∈ l, EntOk e) → 21 ≤ endF ⟨no, first, l.reverse⟩ ∧ endF ⟨no, first, l.reverse⟩ ≤ 21 + 29 * l.length
 | [], _ => by rw [List.reverse_nil, endF_nil]; exact ⟨Nat.le_refl _, Nat.le_refl _⟩
 | e :: l, h => by
  have h1 := endF_le (no := no) (first := first) l (fun x hx => h x (List.mem_cons_of_mem _ hx))
  have h2 := endF_add ⟨no, first, l.reverse⟩ e
  have h3 := entF_le (h e List.mem_cons_self)
  have e1 : (Seg.add ⟨no, first, l.reverse⟩ e) = ⟨no, first, (e :: l).reverse⟩ := by simp [Seg.add]
  rw [e1] at h2
  rw [h2, List.length_cons]
  omega
theorem endF_bound (s : Seg) (h : ∀ e ∈ s.l, EntOk e) : 21 ≤ endF s ∧ endF s ≤ 21 + 29 * s.l.length := by
 have := endF_le (no := s.no) (first := s.first) s.l.reverse (fun e he => h e (List.mem_reverse.1 he))
 rw [List.reverse_reverse, List.length_reverse] at this
 exact this
/-- The image that a slot has. -/
def imgAt (segs : List Seg) (i : Nat) : List Int := match segs[i]? with
 | none => zeros 1024
 | some s => imgF s
structure NowIs (now : List (List Int)) (segs : List Seg) : Prop where
 len : now.length = 512
 at_ : ∀ i b, i < 32 → b < 16 → now[16 * i + b]? = some (blkF (imgAt segs i) b)
theorem part_of {now : List (List Int)} {i : Nat} {x : List Int} (hn : now.length = 512) (hi : i < 32) (h : ∀ b, b < 16 → now[16 * i + b]? = some (blkF x b)) : ∀ b, b ≤ 16 → partI now i b = x.take (64 * b)
 | 0, _ => by rw [partI_zero]; simp
 | b + 1, hb => by
  rw [partI_succ now i b (by omega), part_of hn hi h b (by omega)]
  have := h b (by omega)
  rw [List.getElem?_eq_getElem (by omega)] at this
  rw [Option.some.inj this]
  unfold blkF
  rw [show 64 * (b + 1) = 64 * b + 64 by omega, List.take_add, show b * 64 = 64 * b by omega]
theorem NowIs.slot {now : List (List Int)} {segs : List Seg} (h : NowIs now segs) (i : Nat) (hi : i < 32) (hl : (imgAt segs i).length = 1024) : slotI now i = imgAt segs i := by
 unfold slotI
 rw [part_of h.len hi (fun b hb => h.at_ i b hi hb) 16 (Nat.le_refl _), List.take_of_length_le (by omega)]
theorem imgAt_some {segs : List Seg} {i : Nat} {s : Seg} (h : segs[i]? = some s) : imgAt segs i = imgF s := by unfold imgAt; rw [h]
theorem imgAt_none {segs : List Seg} {i : Nat} (h : segs.length ≤ i) : imgAt segs i = zeros 1024 := by unfold imgAt; rw [List.getElem?_eq_none h]
theorem SegsOk.imgLen {segs : List Seg} (h : SegsOk segs) (i : Nat) : (imgAt segs i).length = 1024 := by
 by_cases hi : i < segs.length
 ·have e := List.getElem?_eq_getElem hi
  rw [imgAt_some e]
  exact imgF_len _ (h.all i _ e).1.fit
 ·rw [imgAt_none (by omega), zeros_len]
theorem laid_now (no : Nat) (img : List Int) : ∀ (is : List Nat) (s : St) (k : Nat), (∀ i ∈ is, no * 16 + i < s.now.length) →
  (laid s no img is).now[k]? = if (∃ i ∈ is, no * 16 + i = k) then some (blkF img (k - no * 16)) else s.now[k]?
 | [], s, k, _ => by rw [if_neg (by rintro ⟨i, hi, _⟩; cases hi)]; rfl
 | i :: is, s, k, h => by
  show (laid (wrS s (no * 16 + i) (blkF img i)) no img is).now[k]? = _
  have hl : (wrS s (no * 16 + i) (blkF img i)).now.length = s.now.length := by unfold wrS; exact List.length_set
  rw [laid_now no img is _ k (fun j hj => by rw [hl]; exact h j (List.mem_cons_of_mem _ hj))]
  by_cases h1 : ∃ j ∈ is, no * 16 + j = k
  ·rw [if_pos h1, if_pos (by obtain ⟨j, a, b⟩ := h1; exact ⟨j, List.mem_cons_of_mem _ a, b⟩)]
  ·rw [if_neg h1]
   by_cases h2 : no * 16 + i = k
   ·rw [if_pos ⟨i, List.mem_cons_self, h2⟩]
    have := h i List.mem_cons_self
    subst h2
    show (s.now.set _ _)[_]? = _
    rw [List.getElem?_set_self this, show no * 16 + i - no * 16 = i by omega]
   ·rw [if_neg (by rintro ⟨j, a, b⟩; rcases List.mem_cons.1 a with rfl | a; exact h2 b; exact h1 ⟨j, a, b⟩)]
    show (s.now.set _ _)[_]? = _
    rw [List.getElem?_set_ne h2]
theorem laid_waitL (no : Nat) (img : List Int) : ∀ (is : List Nat) (s : St), (laid s no img is).wait = s.wait ++ is.map (fun i => ⟨no * 16 + i, blkF img i⟩)
 | [], s => by simp [laid]
 | i :: is, s => by
  show (laid (wrS s (no * 16 + i) (blkF img i)) no img is).wait = _
  rw [laid_waitL no img is]
  simp [wrS]
theorem laid_sure (no : Nat) (img : List Int) : ∀ (is : List Nat) (s : St), (laid s no img is).sure = s.sure
 | [], s => rfl
 | i :: is, s => by
  show (laid (wrS s (no * 16 + i) (blkF img i)) no img is).sure = _
  rw [laid_sure no img is]
  rfl
/-- One slot is laid anew: the others stand. -/
theorem NowIs.laid {s : St} {segs segs' : List Seg} {no : Nat} {is : List Nat} {img : List Int} (h : NowIs s.now segs) (hno : no < 32) (his : ∀ i ∈ is, i < 16)
  (hi : imgAt segs' no = img) (ho : ∀ i, i ≠ no → imgAt segs' i = imgAt segs i) (hb : ∀ b, b < 16 → b ∉ is → blkF img b = blkF (imgAt segs no) b) : NowIs (laid s no img is).now segs' := by
 have hl : ∀ (is : List Nat) (s : St), (Bl.laid s no img is).now.length = s.now.length := by
  intro is
  induction is with
  | nil => intro s; rfl
  | cons i is ih =>
   intro s
   show (Bl.laid (wrS s (no * 16 + i) (blkF img i)) no img is).now.length = _
   rw [ih]
   exact List.length_set
 refine ⟨by rw [hl]; exact h.len, fun i b h1 h2 => ?_⟩
 rw [laid_now _ _ _ _ _ (fun j hj => by have := his j hj; rw [h.len]; omega)]
 by_cases hin : i = no
 ·subst hin
  by_cases hb' : b ∈ is
  ·rw [if_pos ⟨b, hb', by omega⟩, hi, show 16 * i + b - i * 16 = b by omega]
  ·rw [if_neg (by rintro ⟨j, a, c⟩; obtain rfl : j = b := (by omega); exact hb' a), h.at_ i b h1 h2, hi, hb b h2 hb']
 ·rw [if_neg (by rintro ⟨j, a, c⟩; have := his j a; omega), h.at_ i b h1 h2, ho i hin]
theorem blkF_put (img x : List Int) (o b : Nat) (h : 64 * (b + 1) ≤ o ∨ o + x.length ≤ 64 * b) (hl : o + x.length ≤ img.length) : blkF (putI img o x) b = blkF img b := by
 unfold blkF putI
 apply List.ext_getElem?
 intro j
 rw [List.getElem?_take, List.getElem?_take]
 split
 ·rw [List.getElem?_drop, List.getElem?_drop, List.getElem?_append, List.length_take, List.getElem?_append]
  have : min o img.length = o := by omega
  rw [this]
  split
  ·rw [List.getElem?_take, if_pos ‹_›]
  ·split
   ·omega
   ·rw [List.getElem?_drop]
    congr 1
    omega
 ·rfl
theorem imgAt_app (segs : List Seg) (s : Seg) (i : Nat) : imgAt (segs ++ [s]) i = if i = segs.length then imgF s else imgAt segs i := by
 unfold imgAt
 by_cases h : i < segs.length
 ·rw [List.getElem?_append_left h, if_neg (by omega)]
 ·rw [List.getElem?_append_right (by omega)]
  by_cases h2 : i = segs.length
  ·subst h2; rw [if_pos rfl, Nat.sub_self]; rfl
  ·rw [if_neg h2, List.getElem?_eq_none (by simp; omega), List.getElem?_eq_none (by omega)]
theorem now_turn {s : St} {segs : List Seg} (h : NowIs s.now segs) (hl : segs.length < 32) : NowIs (turnS s (newSeg segs)).now (segs ++ [newSeg segs]) := by
 have e : imgF (newSeg segs) = img0 (newSeg segs).no (newSeg segs).first := imgF_nil _ _
 refine h.laid (no := (newSeg segs).no) (img := img0 (newSeg segs).no (newSeg segs).first) hl (fun i hi => ?_) ?_ (fun i hi => ?_) (fun b h1 h2 => absurd ?_ h2)
 ·unfold downTo at hi
  have := List.mem_range'.1 (List.mem_reverse.1 hi)
  omega
 ·rw [imgAt_app, if_pos (by rfl), e]
 ·rw [imgAt_app, if_neg (show ¬ i = segs.length from hi)]
 ·unfold downTo
  exact List.mem_reverse.2 (List.mem_range'.2 ⟨b, by omega, by omega⟩)
theorem now_lay {s : St} {old : List Seg} {cur : Seg} {e : Ent} (h : NowIs s.now (old ++ [cur])) (hl : old.length < 32) (hno : cur.no = old.length) (hf : endF cur + (8 + (entF e).length) ≤ 1024) :
  NowIs (layS s cur e).now (old ++ [cur.add e]) := by
 refine h.laid (no := cur.no) (img := imgF (cur.add e)) (by omega) (fun i hi => ?_) ?_ (fun i hi => ?_) (fun b h1 h2 => ?_)
 ·obtain ⟨j, hj, rfl⟩ := List.mem_range'.1 hi
  omega
 ·rw [imgAt_app, if_pos hno]
 ·rw [imgAt_app, imgAt_app, if_neg (by omega), if_neg (by omega)]
 ·rw [imgAt_app, if_pos hno, imgF_add _ _ hf]
  refine blkF_put _ _ _ _ ?_ (by rw [imgF_len _ (by omega), frameF_len]; exact hf)
  rw [frameF_len]
  by_cases hlt : b < endF cur / 64
  ·left; omega
  ·right
   have : ¬ b < (endF cur + (8 + (entF e).length) + 63) / 64 := fun hh => h2 (List.mem_range'.2 ⟨b - endF cur / 64, by omega, by omega⟩)
   omega
/-- The first write that waits. -/
def First (safe : List Seg) (w : Wr) : Prop := (w.pos = 16 * safe.length + 15 ∧ w.b = zeros 64 ∧ safe.length < 32) ∨
 ∃ old cur e, safe = old ++ [cur] ∧ 0 < (entF e).length ∧ endF cur + (8 + (entF e).length) ≤ 1024 ∧ old.length < 32 ∧ w.pos = 16 * old.length + endF cur / 64 ∧ w.b = blkF (imgF (cur.add e)) (endF cur / 64)
set_option maxRecDepth 100000 in
theorem img0_15 (no first : Nat) : blkF (img0 no first) 15 = zeros 64 := by
 have hl : (frameF (hdr no first)).length = 21 := by rw [frameF_len, hdr_len]
 unfold blkF img0 over
 rw [hl, List.drop_append, List.drop_of_length_le (by omega), hl, List.nil_append]
 decide
theorem first_turn (s : St) (segs : List Seg) (hw : s.wait = []) (hl : segs.length < 32) : ∃ w r, (turnS s (newSeg segs)).wait = w :: r ∧ First segs w := by
 unfold turnS
 rw [laid_waitL, hw, List.nil_append]
 have e : downTo 16 = 15 :: (downTo 16).tail := by decide
 rw [e, List.map_cons, img0_15]
 refine ⟨⟨(newSeg segs).no * 16 + 15, zeros 64⟩, _, rfl, .inl ⟨?_, rfl, hl⟩⟩
 show segs.length * 16 + 15 = _
 omega
theorem first_lay (s : St) (old : List Seg) (cur : Seg) (e : Ent) (hw : s.wait = []) (hl : old.length < 32) (hno : cur.no = old.length) (h0 : 0 < (entF e).length) (hf : endF cur + (8 + (entF e).length) ≤ 1024) : ∃ w r, (layS s cur e).wait = w :: r ∧ First (old ++ [cur]) w := by
 unfold layS
 rw [laid_waitL, hw, List.nil_append]
 obtain ⟨n, hn⟩ : ∃ n, (endF cur + (8 + (entF e).length) + 63) / 64 - endF cur / 64 = n + 1 := ⟨(endF cur + (8 + (entF e).length) + 63) / 64 - endF cur / 64 - 1, by omega⟩
 rw [hn, List.range'_succ, List.map_cons]
 refine ⟨_, _, rfl, .inr ⟨old, cur, e, rfl, h0, hf, hl, ?_, rfl⟩⟩
 show cur.no * 16 + _ = _
 omega
theorem laid_first {s : St} {no : Nat} {img : List Int} {is : List Nat} {w : Wr} {r : List Wr} (h : s.wait = w :: r) : ∃ r', (laid s no img is).wait = w :: r' := ⟨_, by rw [laid_waitL, h, List.cons_append]⟩
end Go.Proofs.YthfjhgdiakciaaaGreat.Bl
