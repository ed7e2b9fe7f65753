/- Bytes that are read one by one: a Reader (NewReader, take, number, U8, U16, U32, U64, Text, Done). Condition: the receiver is such a Reader of the call's own. -/
import Derived.Test.YthfjhgdiakciaaaGreatM02
import Derived.Test.YthfjhgdiakciaaaGreatM03
namespace Go.Proofs.YthfjhgdiakciaaaGreat.Bl
open Go.RowKit
set_option linter.unusedVariables false
set_option linter.unusedSimpArgs false
structure RdAt (W : World) (base p g : Nat) (x : List Int) (sh : Bool) (A : Option Addr) (c : Nat) : Prop where
 lo : base ≤ p
 cap : x.length ≤ c
 blk : W.heap[p]? = some (.cells #[.slice A x.length c, .bool sh] 200 (0, 0))
 ok : ByteOk x
 at_ : ∃ o, A = some ⟨g, o, none⟩ ∧ base ≤ g ∧ g ≠ p ∧ g < W.heap.size ∧ W.rangeAt g o (bv x)
def Rd (W : World) (base p g : Nat) (x : List Int) (sh : Bool) : Prop := ∃ A c, RdAt W base p g x sh A c
theorem newr_a {W : World} {q o : Nat} {x : List Int} (h : Bytes W (some ⟨q, o, none⟩) x) (hx0 : 0 < x.length) (hx : x.length < 1000000) (c : Nat) :
  Calls Tryz.prog 65 #[.slice (some ⟨q, o, none⟩) x.length c] W fun e W' => ∃ p g, e = .returned (.pointer (some ⟨p, 0, none⟩)) ∧ Rd W' W.heap.size p g x false ∧ Below W.heap.size W W' := by
 obtain ⟨i0, hi0, hz0, hz1, hz2⟩ := info_parts info5
 have HX := As.mk h.1
 obtain ⟨q', o', e, hq, hr⟩ := h.2 (by intro e; rw [e] at hx0; exact absurd hx0 (by decide))
 injection e with e
 injection e with e1 e2
 subst e1 e2
 have hsrc : As (∀ j u, (bv x)[j]? = some u → (W.alloc (.cells #[] 5 (0, 0))).cell? ((⟨q, o, none⟩ : Addr).add j) = some u) := ⟨fun j u hu => by
  rw [Addr.add_mid, World.cell?_alloc_lt _ _ _ hq]
  exact hr j u hu⟩
 have hown0 : As ((W.alloc (.cells #[] 5 (0, 0))).ownsRow W.heap.size 5 1 (.slice (some ⟨W.heap.size, 0, none⟩) 0 0) 0 []) := ⟨World.ownsRow_lit W #[] 0 (Nat.le_refl _) (Nat.zero_le _) rfl⟩
 clear h hr
 go_enter Tryz.func65, Tryz.ntmps65
 go_wp2_with ((at_builtin; refine wpList_append_lies _ rfl _ _ 39 rfl W.heap.size 5 i0 (.int .u8 0) 1 1 Tryz.underlying39 hi0 hz0 hz1 hz2 rfl (by omega) _ _ _ rfl hown0.out ⟨q, o, none⟩ x.length c (bv x) rfl (by rw [bv_len, Nat.mul_one]) hsrc.out (bv_one x) (by omega) (by unfold maxLen; omega) (by omega) (by simp) _ rfl ?_))
 intro gg cap' w7 hown7 hgrow7 hat7 hlt7
 have HO7 := As.mk hown7
 have hB7 : As (Below W.heap.size W w7) := ⟨((Below.refl _ _).alloc (Nat.le_refl _) _).grown hgrow7 (by simp) (fun k hk => Nat.le_of_eq (ob_eq hk))⟩
 have hcp : As (x.length ≤ cap') := ⟨by obtain ⟨_, _, _, h, _⟩ := own_block hown7; omega⟩
 have hl7 := As.mk hlt7
 have hs7 := hB7.out.size
 have hg7 := As.mk (hown7.lt gg rfl).1
 clear hown7 hgrow7 hat7 hlt7
 go_wp2_with fail
 go_ret
 refine ⟨_, gg, rfl, ⟨_, _, hs7, hcp.out, blk_new w7 _, HX.out, 0, rfl, hg7.out, by have := hl7.out; omega, by simp; have := hl7.out; omega, ?_⟩, hB7.out.alloc hs7 _⟩
 have HO : w7.ownsRow W.heap.size 5 1 (.slice (some ⟨gg, 0, none⟩) x.length cap') x.length (bv x) := by simpa using HO7.out
 exact range_heap (own_range HO 0 _ (fun j v hv => by simpa using hv)) (Below.heap_alloc _ _ _ hl7.out)
theorem bv_drop (x : List Int) (n : Nat) : bv (x.drop n) = (bv x).drop n := List.map_drop
theorem bv_take (x : List Int) (n : Nat) : bv (x.take n) = (bv x).take n := List.map_take
theorem ByteOk.drop {x : List Int} (h : ByteOk x) (n : Nat) : ByteOk (x.drop n) := fun y hy => h y (List.mem_of_mem_drop hy)
theorem ByteOk.take {x : List Int} (h : ByteOk x) (n : Nat) : ByteOk (x.take n) := fun y hy => h y (List.mem_of_mem_take hy)
theorem take_fin {W : World} {base p g o c : Nat} {x : List Int} (H : RdAt W base p g x false (some ⟨g, o, none⟩) c) (n o' c' : Nat) (ho : o' = o + n ∨ n = x.length) (hn : n ≤ x.length) (hn0 : 0 < n) (hc : x.length - n ≤ c') :
  Bytes ((W.setCell ⟨p, 1, none⟩ (.bool false)).setCell ⟨p, 0, none⟩ (.slice (some ⟨g, o', none⟩) (x.length - n) c')) (some ⟨g, o, none⟩) (x.take n) ∧
  Rd ((W.setCell ⟨p, 1, none⟩ (.bool false)).setCell ⟨p, 0, none⟩ (.slice (some ⟨g, o', none⟩) (x.length - n) c')) base p g (x.drop n) false ∧
  Frame (fun k => k = p) W ((W.setCell ⟨p, 1, none⟩ (.bool false)).setCell ⟨p, 0, none⟩ (.slice (some ⟨g, o', none⟩) (x.length - n) c')) := by
 obtain ⟨h1, h2, h3, h4, o1, e, h5, h6, h7, h8⟩ := H
 injection e with e
 injection e with e1 e2
 subst e2
 have hg : ((W.setCell ⟨p, 1, none⟩ (.bool false)).setCell ⟨p, 0, none⟩ (.slice (some ⟨g, o', none⟩) (x.length - n) c')).heap[g]? = W.heap[g]? := by
  rw [Below.heap_setCell _ _ _ _ h6, Below.heap_setCell _ _ _ _ h6]
 refine ⟨⟨h4.take n, fun _ => ⟨g, o, rfl, by simpa using h7, ?_⟩⟩, ⟨some ⟨g, o', none⟩, c', h1, by rw [List.length_drop]; exact hc, ?_, h4.drop n, o', rfl, h5, h6, by simpa using h7, ?_⟩, ((Frame.refl (fun k => k = p) W).setCell (p := ⟨p, 1, none⟩) (.inl rfl) _).setCell (p := ⟨p, 0, none⟩) (.inl rfl) _⟩
 ·rw [bv_take]; exact range_heap (range_take h8 n) hg
 ·rw [blk_put (blk_put h3 1 _) 0, List.length_drop]; simp
 ·rcases ho with rfl | rfl
  ·rw [bv_drop]; exact range_heap (range_sub h8 n) hg
  ·rw [List.drop_length]; intro j v hv; simp [bv] at hv
theorem take_at {W : World} {base p g : Nat} {x : List Int} (h : Rd W base p g x false) (n : Nat) (hn : n ≤ x.length) (hn0 : 0 < n) (hx : x.length < 1000000) :
  Calls Tryz.prog 122 #[.pointer (some ⟨p, 0, none⟩), .int .i64 n] W fun e W' => ∃ o c, e = .returned (.slice (some ⟨g, o, none⟩) n c) ∧ n ≤ c ∧ Bytes W' (some ⟨g, o, none⟩) (x.take n) ∧ Rd W' base p g (x.drop n) false ∧ Frame (fun k => k = p) W W' := by
 obtain ⟨A, c, h⟩ := h
 obtain ⟨o, rfl, h1, h2, h3, h4⟩ := h.at_
 have H := As.mk h
 have c0 := (blk_cell h.blk 0).trans rfl
 have c1 := (blk_cell h.blk 1).trans rfl
 have f1 := blk_frozen h.blk 1
 have f0 := blk_frozen h.blk 0
 have hc := h.cap
 clear h h4
 go_enter Tryz.func122, Tryz.ntmps122
 go_wp2_with fail
 all_goals
  go_ret
  refine ⟨_, _, rfl, by omega, take_fin H.out n _ _ (by omega) hn hn0 (by omega)⟩
/-! ### Numbers -/
def orF (n c : Int) : Int := bits .or .u64 (IntKind.u64.wrap (n * 256)) c
def numB (y : List Int) : Int := y.foldl orF 0
theorem numB_snoc (y : List Int) (c : Int) : numB (y ++ [c]) = orF (numB y) c := by simp [numB]
theorem number_at {W : World} {base p g : Nat} {x : List Int} (h : Rd W base p g x false) (n : Nat) (hn : n ≤ x.length) (hn0 : 0 < n) (hn8 : n ≤ 8) (hx : x.length < 1000000) :
  Calls Tryz.prog 106 #[.pointer (some ⟨p, 0, none⟩), .int .i64 n] W fun e W' => e = .returned (.int .u64 (numB (x.take n))) ∧ Rd W' base p g (x.drop n) false ∧ Frame (fun k => k = p) W W' := by
 have H := As.mk (take_at h n hn hn0 hx)
 clear h
 go_enter Tryz.func106, Tryz.ntmps106
 go_wp2_with fail
 refine H.out.mono ?_
 rintro e w1 ⟨o, c, rfl, hc, h1, h2, h3⟩
 have H1 := As.mk h1
 have H2 := As.mk h2
 have H3 := As.mk h3
 clear h1 h2 h3 H
 have hyl : (x.take n).length = n := by rw [List.length_take]; omega
 generalize hy : x.take n = y at *
 have HY := As.mk hy
 clear hy
 go_wp2_with fail
 go_loopg [5, 12] n (fun gk v5 v12 w' => ∃ (i : Nat) (r : Int), v12 = .int .i64 i ∧ v5 = .int .u64 r ∧ As (r = numB (y.take i)) ∧ As (i ≤ n) ∧ As (gk = n - i) ∧ As (w1 = w'))
 case atStart => exact ⟨0, _, rfl, rfl, ⟨rfl⟩, ⟨Nat.zero_le _⟩, ⟨rfl⟩, ⟨rfl⟩⟩
 case round =>
  obtain ⟨i, r, rfl, rfl, HR, HI, HK, HW⟩ := hrel
  obtain rfl := HW.out
  by_cases hlt : i < n
  ·obtain ⟨q', o', e, hq, hr⟩ := H1.out.2 (by intro e; rw [e] at hyl; simp at hyl; omega)
   injection e with e
   injection e with e1 e2
   subst e1 e2
   have hc := hr i (.int .u8 y[i]) (by rw [bv_get, List.getElem?_eq_getElem (by omega)]; rfl)
   have hb := H1.out.1 y[i] (List.getElem_mem (by omega))
   obtain ⟨cx, hcx⟩ : ∃ cx, cx = y[i] := ⟨_, rfl⟩
   have HX := As.mk hcx
   rw [← hcx] at hc hb
   clear hr hcx
   go_wp2_with fail
   go_roundg (n - (i + 1))
   case measure => have := HK.out; omega
   case rel => exact ⟨i + 1, _, by go_num, rfl, ⟨by rw [List.take_add_one, List.getElem?_eq_getElem (by omega)]; simp only [Option.toList_some]; rw [numB_snoc, ← HR.out, ← HX.out]; rfl⟩, ⟨by omega⟩, ⟨rfl⟩, ⟨rfl⟩⟩
  ·obtain rfl : i = n := by have := HI.out; omega
   go_wp2_with fail
   go_ret
   refine ⟨?_, H2.out, H3.out⟩
   rw [HY.out, HR.out, List.take_of_length_le (by omega)]
   rfl
theorem orF_add (a c : Int) (ha : 0 ≤ a ∧ a < 72057594037927936) (hc : 0 ≤ c ∧ c < 256) : orF a c = a * 256 + c := by
 obtain ⟨a, rfl⟩ := Int.eq_ofNat_of_zero_le ha.1
 obtain ⟨c, rfl⟩ := Int.eq_ofNat_of_zero_le hc.1
 have h1 : IntKind.u64.wrap ((a : Int) * 256) = ((a * 256 : Nat) : Int) := by
  simp [IntKind.wrap, IntKind.bits, IntKind.signed]; omega
 unfold orF
 rw [h1, u64_or_nat _ _ (by omega) (by omega)]
 have := Nat.two_pow_add_eq_or_of_lt (i := 8) (b := c) (by omega) a
 have e : a * 256 = 2 ^ 8 * a := by omega
 rw [e, ← this]
 omega
theorem numB_take (n : Int) (k : Nat) (hk : k ≤ 8) (hn : 0 ≤ n ∧ n < 18446744073709551616) : ∀ i, i ≤ k → n < 2 ^ (8 * k) → numB ((be n k).take i) = n / 2 ^ (8 * (k - i)) := by
 intro i
 induction i with
 | zero =>
  intro _ h
  rw [Nat.sub_zero, Int.ediv_eq_zero_of_lt hn.1 h]
  rfl
 | succ i ih =>
  intro hi h
  have e1 : 8 * (k - i) = 8 * (k - 1 - i) + 8 := by omega
  have e2 : 8 * (k - (i + 1)) = 8 * (k - 1 - i) := by omega
  have hq : n / 2 ^ (8 * (k - i)) = n / 2 ^ (8 * (k - 1 - i)) / 256 := by
   rw [e1, Int.pow_add, ← Int.ediv_ediv_of_nonneg (Int.pow_nonneg (by decide))]
   rfl
  have hp : (1 : Int) ≤ 2 ^ (8 * (k - 1 - i)) := Int.pow_pos (by decide)
  have h0 : 0 ≤ n / 2 ^ (8 * (k - 1 - i)) := Int.ediv_nonneg hn.1 (by omega)
  have h2 : n / 2 ^ (8 * (k - 1 - i)) ≤ n := Int.ediv_le_self _ hn.1
  rw [be_take n k i (by omega), numB_snoc, ih (by omega) h, hq, e2]
  generalize n / 2 ^ (8 * (k - 1 - i)) = y at *
  rw [orF_add _ _ (by omega) (by omega)]
  omega
theorem numB_be (n : Int) (k : Nat) (hk : k ≤ 8) (hn : 0 ≤ n) (h : n < 2 ^ (8 * k)) : numB (be n k) = n := by
 have hb : (2 : Int) ^ (8 * k) ≤ 2 ^ 64 := by
  have := Nat.pow_le_pow_right (n := 2) (by omega) (i := 8 * k) (j := 64) (by omega)
  exact_mod_cast this
 have := numB_take n k hk ⟨hn, by have : (2 : Int) ^ 64 = 18446744073709551616 := (by decide); omega⟩ k (Nat.le_refl _) h
 rw [List.take_of_length_le (by rw [be_len]; exact Nat.le_refl _), Nat.sub_self] at this
 simpa using this
section
variable {W : World} {base p g : Nat} {r : List Int}
theorem number_be (n : Int) (k : Nat) (hk : k ≤ 8) (hk0 : 0 < k) (hn : 0 ≤ n) (hb : n < 2 ^ (8 * k)) (h : Rd W base p g (be n k ++ r) false) (hr : r.length < 900000) :
  Calls Tryz.prog 106 #[.pointer (some ⟨p, 0, none⟩), .int .i64 k] W fun e W' => e = .returned (.int .u64 n) ∧ Rd W' base p g r false ∧ Frame (fun k => k = p) W W' := by
 have := number_at h k (by rw [List.length_append, be_len]; omega) hk0 hk (by rw [List.length_append, be_len]; omega)
 have e1 : (be n k ++ r).take k = be n k := by rw [List.take_append_of_le_length (by rw [be_len]; exact Nat.le_refl _), List.take_of_length_le (by rw [be_len]; exact Nat.le_refl _)]
 have e2 : (be n k ++ r).drop k = r := by rw [List.drop_append_of_le_length (by rw [be_len]; exact Nat.le_refl _), List.drop_of_length_le (by rw [be_len]; exact Nat.le_refl _), List.nil_append]
 rw [e1, e2, numB_be n k hk hn hb] at this
 exact this
theorem ru8_a (n : Int) (hn : 0 ≤ n ∧ n < 256) (h : Rd W base p g (be n 1 ++ r) false) (hr : r.length < 900000) :
  Calls Tryz.prog 66 #[.pointer (some ⟨p, 0, none⟩)] W fun e W' => e = .returned (.int .u8 n) ∧ Rd W' base p g r false ∧ Frame (fun k => k = p) W W' := by
 have H := As.mk (number_be n 1 (by omega) (by omega) hn.1 (by omega) h hr)
 clear h
 go_enter Tryz.func66, Tryz.ntmps66
 go_wp2_with fail
 refine H.out.mono ?_
 rintro e w1 ⟨rfl, h1, h2⟩
 have H1 := As.mk h1
 have H2 := As.mk h2
 clear h1 h2 H
 go_wp2_with fail
 go_ret
 refine ⟨?_, H1.out, H2.out⟩
 show Ending.returned (Value.int IntKind.u8 _) = _
 have e : IntKind.u8.wrap n = n := by simp [IntKind.wrap, IntKind.bits, IntKind.signed]; omega
 first | rfl | rw [e]
theorem ru16_a (n : Int) (hn : 0 ≤ n ∧ n < 65536) (h : Rd W base p g (be n 2 ++ r) false) (hr : r.length < 900000) :
  Calls Tryz.prog 127 #[.pointer (some ⟨p, 0, none⟩)] W fun e W' => e = .returned (.int .u16 n) ∧ Rd W' base p g r false ∧ Frame (fun k => k = p) W W' := by
 have H := As.mk (number_be n 2 (by omega) (by omega) hn.1 (by omega) h hr)
 clear h
 go_enter Tryz.func127, Tryz.ntmps127
 go_wp2_with fail
 refine H.out.mono ?_
 rintro e w1 ⟨rfl, h1, h2⟩
 have H1 := As.mk h1
 have H2 := As.mk h2
 clear h1 h2 H
 go_wp2_with fail
 go_ret
 refine ⟨?_, H1.out, H2.out⟩
 show Ending.returned (Value.int IntKind.u16 _) = _
 have e : IntKind.u16.wrap n = n := by simp [IntKind.wrap, IntKind.bits, IntKind.signed]; omega
 first | rfl | rw [e]
theorem ru32_a (n : Int) (hn : 0 ≤ n ∧ n < 4294967296) (h : Rd W base p g (be n 4 ++ r) false) (hr : r.length < 900000) :
  Calls Tryz.prog 67 #[.pointer (some ⟨p, 0, none⟩)] W fun e W' => e = .returned (.int .u32 n) ∧ Rd W' base p g r false ∧ Frame (fun k => k = p) W W' := by
 have H := As.mk (number_be n 4 (by omega) (by omega) hn.1 (by omega) h hr)
 clear h
 go_enter Tryz.func67, Tryz.ntmps67
 go_wp2_with fail
 refine H.out.mono ?_
 rintro e w1 ⟨rfl, h1, h2⟩
 have H1 := As.mk h1
 have H2 := As.mk h2
 clear h1 h2 H
 go_wp2_with fail
 go_ret
 refine ⟨?_, H1.out, H2.out⟩
 show Ending.returned (Value.int IntKind.u32 _) = _
 have e : IntKind.u32.wrap n = n := by simp [IntKind.wrap, IntKind.bits, IntKind.signed]; omega
 first | rfl | rw [e]
theorem ru64_a (n : Int) (hn : 0 ≤ n ∧ n < 18446744073709551616) (h : Rd W base p g (be n 8 ++ r) false) (hr : r.length < 900000) :
  Calls Tryz.prog 68 #[.pointer (some ⟨p, 0, none⟩)] W fun e W' => e = .returned (.int .u64 n) ∧ Rd W' base p g r false ∧ Frame (fun k => k = p) W W' := by
 have H := As.mk (number_be n 8 (by omega) (by omega) hn.1 (by omega) h hr)
 clear h
 go_enter Tryz.func68, Tryz.ntmps68
 go_wp2_with fail
 refine H.out.mono ?_
 rintro e w1 ⟨rfl, h1, h2⟩
 have H1 := As.mk h1
 have H2 := As.mk h2
 clear h1 h2 H
 go_wp2_with fail
 go_ret
 exact ⟨rfl, H1.out, H2.out⟩
theorem rdone_a (h : Rd W base p g [] false) :
  Calls Tryz.prog 69 #[.pointer (some ⟨p, 0, none⟩)] W fun e W' => e = .returned (.int .i64 0) ∧ W = W' := by
 obtain ⟨A, c, h⟩ := h
 have c0 := (blk_cell h.blk 0).trans rfl
 have c1 := (blk_cell h.blk 1).trans rfl
 clear h
 go_enter Tryz.func69, Tryz.ntmps69
 go_wp2_with fail
 go_ret
 exact ⟨rfl, rfl⟩
set_option maxRecDepth 100000 in
/-- A text, and what stands behind it. -/
theorem rtext_a {s : List Int} (hs1 : 0 < s.length) (hs2 : s.length ≤ 255) (h : Rd W base p g (be s.length 1 ++ s ++ r) false) (hr : r.length < 900000) :
  Calls Tryz.prog 97 #[.pointer (some ⟨p, 0, none⟩)] W fun e W' => ∃ g' c, e = .returned (.slice (some ⟨g', 0, none⟩) s.length c) ∧ Rd W' base p g r false ∧ W'.ownsRow W.heap.size 5 1 (.slice (some ⟨g', 0, none⟩) s.length c) s.length (bv s) ∧ Frame (fun k => k = p) W W' := by
 obtain ⟨i0, hi0, hz0, hz1, hz2⟩ := info_parts info5
 have hl : (be s.length 1 ++ s ++ r).length = 1 + s.length + r.length := by rw [List.length_append, List.length_append, be_len]
 have HT := take_at h (1 + s.length) (by omega) (by omega) (by omega)
 obtain ⟨A, c, h⟩ := h
 obtain ⟨o, rfl, h1, h2, h3, h4⟩ := h.at_
 have c0 := (blk_cell h.blk 0).trans rfl
 have hb0 := h4 0 (.int .u8 s.length) (by
  have : be (s.length : Int) 1 = [(s.length : Int)] := by simp [be]; omega
  rw [this]; rfl)
 rw [hl] at c0
 have hcap := h.cap
 rw [hl] at hcap
 have HS : As (ByteOk s) := ⟨fun y hy => h.ok y (List.mem_append_left _ (List.mem_append_right _ hy))⟩
 have et : (be s.length 1 ++ s ++ r).take (1 + s.length) = be s.length 1 ++ s := List.take_left' (by rw [List.length_append, be_len])
 have ed : (be s.length 1 ++ s ++ r).drop (1 + s.length) = r := List.drop_left' (by rw [List.length_append, be_len])
 rw [et, ed] at HT
 have e1 : ((1 + s.length : Nat) : Int) = 1 + (s.length : Int) := by omega
 rw [e1] at HT
 have HT := As.mk HT
 clear h h4 et ed hl e1
 rw [Nat.add_zero] at hb0
 go_enter Tryz.func97, Tryz.ntmps97
 go_wp2_with fail
 refine HT.out.mono ?_
 rintro e w1 ⟨o2, cc, rfl, hcc, q1, q2, q3⟩
 obtain ⟨g3, o3, e3, hq, hr3⟩ := q1.2 (by intro e; have := congrArg List.length e; rw [List.length_append, be_len] at this; simp at this)
 injection e3 with e3
 injection e3 with e3 e4
 subst e3 e4
 have Q2 := As.mk q2
 have Q3 := As.mk q3
 have hsrc : As (∀ j u, (bv s)[j]? = some u → (w1.alloc (.cells #[] 5 (0, 0))).cell? ((⟨g, o2 + 1, none⟩ : Addr).add j) = some u) := ⟨fun j u hu => by
  rw [Addr.add_mid, World.cell?_alloc_lt _ _ _ hq]
  have := range_sub hr3 1 j u
  rw [bv_app, List.drop_left' (by rw [bv_len, be_len])] at this
  exact this hu⟩
 have hown0 : As ((w1.alloc (.cells #[] 5 (0, 0))).ownsRow w1.heap.size 5 1 (.slice (some ⟨w1.heap.size, 0, none⟩) 0 0) 0 []) := ⟨World.ownsRow_lit w1 #[] 0 (Nat.le_refl _) (Nat.zero_le _) rfl⟩
 have hs1' : ¬ cc = 1 := by omega
 clear q1 q2 q3 hr3 HT
 go_wp2_with ((at_builtin; refine wpList_append_lies _ rfl _ _ 39 rfl w1.heap.size 5 i0 (.int .u8 0) 1 1 Tryz.underlying39 hi0 hz0 hz1 hz2 rfl (by omega) _ _ _ rfl hown0.out ⟨g, o2 + 1, none⟩ s.length (cc - 1) (bv s) rfl (by rw [bv_len, Nat.mul_one]) hsrc.out (bv_one s) (by omega) (by unfold maxLen; omega) (by omega) (by simp) _ rfl ?_))
 intro gg cap' w7 hown7 hgrow7 hat7 hlt7
 have HO7 := As.mk hown7
 have hg7 := As.mk (hown7.lt gg rfl)
 have hB7 : As (Below w1.heap.size w1 w7) := ⟨((Below.refl _ _).alloc (Nat.le_refl _) _).grown hgrow7 (by simp) (fun k hk => Nat.le_of_eq (ob_eq hk))⟩
 clear hown7 hgrow7 hat7 hlt7
 go_wp2_with fail
 go_ret
 refine ⟨gg, cap', rfl, ?_, ?_, Q3.out.trans (Frame.of_below (own := fun k => k = p) hB7.out (Nat.le_refl _)) (fun _ _ h => h)⟩
 ·obtain ⟨A, c, h⟩ := Q2.out
  obtain ⟨o, e, h1, h2, h3, h4⟩ := h.at_
  exact ⟨A, c, h.lo, h.cap, (hB7.out.block p (blk_lt h.blk)).trans h.blk, h.ok, o, e, h1, h2, by have := hB7.out.size; omega, range_heap h4 (hB7.out.block g h3)⟩
 ·have hsz := Q3.out.low.size
  obtain ⟨a1, a2⟩ := HO7.out
  refine ⟨a1, ?_⟩
  rcases a2 with a2 | ⟨g', cp, cur, e, b1, b2⟩
  ·exact .inl a2
  ·exact .inr ⟨g', cp, cur, e, by omega, b2⟩
end
end Go.Proofs.YthfjhgdiakciaaaGreat.Bl
/- Entries: bare, zero, Check. Condition: the entry is one of those that the law makes. -/
namespace Go.Proofs.YthfjhgdiakciaaaGreat.Bl
open Go.RowKit
set_option linter.unusedVariables false
set_option linter.unusedSimpArgs false
structure Ent where
 kind : Int
 lsn : Int
 order : Int
 step : Int
 undo : Bool
 tr : Int
 code : Int
 key : List Int
 data : List Int
/-- An entry's cells. -/
def entC (e : Ent) (ak : Option Addr) (ck : Nat) (ad : Option Addr) (cd : Nat) : List Value :=
 [.int .i64 e.kind, .int .u64 e.lsn, .int .u32 1, .int .u32 e.order, .int .i64 e.step, .bool e.undo, .int .i64 e.tr, .int .i64 e.code, .int .u64 0, .slice ak e.key.length ck, .slice ad e.data.length cd]
structure EntOk (e : Ent) : Prop where
 lsn : 1 ≤ e.lsn ∧ e.lsn < 1000000
 order : 1 ≤ e.order ∧ e.order < 1000000
 kind : (e.kind = 2 ∧ e.key.length = 1 ∧ e.data.length = 1 ∧ ByteOk e.key ∧ ByteOk e.data ∧ e.step = 0 ∧ e.undo = false ∧ e.tr = 0 ∧ e.code = 0) ∨
  (e.kind = 3 ∧ e.key = [] ∧ e.data = [] ∧ 0 ≤ e.step ∧ e.step < 16 ∧ 1 ≤ e.tr ∧ e.tr ≤ 255 ∧ e.code = 0) ∨
  (e.kind = 4 ∧ e.key = [] ∧ e.data = [] ∧ 0 ≤ e.step ∧ e.step < 16 ∧ 1 ≤ e.tr ∧ e.tr ≤ 255 ∧ 1 ≤ e.code ∧ e.code ≤ 3)
theorem size41 : (Tryz.prog.info? 41).map (·.size) = some 11 := by kernel_rfl
theorem bare_a (k l ep o s t c m : Int) (u : Bool) (ak ad : Option Addr) (nk ck nd cd : Nat) (W : World) : Calls Tryz.prog 115 #[.agg #[.int .i64 k, .int .u64 l, .int .u32 ep, .int .u32 o, .int .i64 s, .bool u, .int .i64 t, .int .i64 c, .int .u64 m, .slice ak nk ck, .slice ad nd cd]] W
  fun x W' => x = .returned (.agg #[.int .i64 0, .int .u64 0, .int .u32 0, .int .u32 o, .int .i64 s, .bool u, .int .i64 t, .int .i64 c, .int .u64 m, .slice ak nk ck, .slice ad nd cd]) ∧ Below W.heap.size W W' := by
 go_enter Tryz.func115, Tryz.ntmps115
 go_wp2_with fail
 refine bodyPost_ret (results_cell_row rfl _ _ (W.heap.size + 1) 41 #[.int .i64 0, .int .u64 0, .int .u32 0, .int .u32 o, .int .i64 s, .bool u, .int .i64 t, .int .i64 c, .int .u64 m, .slice ak nk ck, .slice ad nd cd] (0, 0) _ rfl ?_ Tryz.underlying41 rfl size41) rfl ?_
 ·exact heap_alloc2_new W _ _
 ·exact ⟨rfl, ((Below.refl _ _).alloc (Nat.le_refl _) _).alloc (by simp) _⟩
theorem zero_a (ak ad : Option Addr) (ck cd : Nat) (W : World) : Calls Tryz.prog 116 #[.agg #[.int .i64 0, .int .u64 0, .int .u32 0, .int .u32 0, .int .i64 0, .bool false, .int .i64 0, .int .i64 0, .int .u64 0, .slice ak 0 ck, .slice ad 0 cd]] W fun x W' => x = .returned (.bool true) ∧ Below W.heap.size W W' := by
 go_enter Tryz.func116, Tryz.ntmps116
 go_wp2_with fail
 go_ret
 exact ⟨rfl, (Below.refl _ _).alloc (Nat.le_refl _) _⟩
theorem cells11 {W : World} {b t : Nat} {fr : Nat × Nat} {v0 v1 v2 v3 v4 v5 v6 v7 v8 v9 v10 : Value} (h : W.heap[b]? = some (.cells #[v0, v1, v2, v3, v4, v5, v6, v7, v8, v9, v10] t fr)) :
  W.cell? ⟨b, 0, none⟩ = some v0 ∧ W.cell? ⟨b, 1, none⟩ = some v1 ∧ W.cell? ⟨b, 2, none⟩ = some v2 ∧ W.cell? ⟨b, 3, none⟩ = some v3 ∧ W.cell? ⟨b, 4, none⟩ = some v4 ∧ W.cell? ⟨b, 5, none⟩ = some v5 ∧ W.cell? ⟨b, 6, none⟩ = some v6 ∧ W.cell? ⟨b, 7, none⟩ = some v7 ∧ W.cell? ⟨b, 8, none⟩ = some v8 ∧ W.cell? ⟨b, 9, none⟩ = some v9 ∧ W.cell? ⟨b, 10, none⟩ = some v10 :=
 ⟨(blk_cell h 0).trans rfl, (blk_cell h 1).trans rfl, (blk_cell h 2).trans rfl, (blk_cell h 3).trans rfl, (blk_cell h 4).trans rfl, (blk_cell h 5).trans rfl, (blk_cell h 6).trans rfl, (blk_cell h 7).trans rfl, (blk_cell h 8).trans rfl, (blk_cell h 9).trans rfl, (blk_cell h 10).trans rfl⟩
set_option maxHeartbeats 4000000 in
set_option maxRecDepth 100000 in
theorem check2_a (l o : Int) (ak ad : Option Addr) (nk ck nd cd : Nat) (hnk : 1 ≤ nk ∧ nk ≤ 32) (hnd : nd ≤ 200) (hl : 1 ≤ l ∧ l < 1000000) (ho : 1 ≤ o ∧ o < 1000000)  (W : World) :
  Calls Tryz.prog 79 #[.agg #[.int .i64 2, .int .u64 l, .int .u32 1, .int .u32 o, .int .i64 0, .bool false, .int .i64 0, .int .i64 0, .int .u64 0, .slice ak nk ck, .slice ad nd cd]] W fun e W' => e = .returned (.int .i64 0) ∧ Below W.heap.size W W' := by
 have h1 : (l == 0) = false := by simpa using (show ¬ l = 0 by omega)
 go_enter Tryz.func79, Tryz.ntmps79
 go_wp2_with fail
 refine (bare_a _ _ _ _ _ _ _ _ _ _ _ _ _ _ _ _).mono ?_
 rintro e w1 ⟨rfl, b1⟩
 have hbk : w1.heap[W.heap.size]? = some (.cells #[.int .i64 2, .int .u64 l, .int .u32 1, .int .u32 o, .int .i64 0, .bool false, .int .i64 0, .int .i64 0, .int .u64 0, .slice ak nk ck, .slice ad nd cd] 41 (0, 0)) := (b1.block W.heap.size (by simp)).trans (heap_alloc_new W _)
 obtain ⟨k0, k1, k2, k3, k4, k5, k6, k7, k8, k9, k10⟩ := cells11 hbk
 have B1 := As.mk (((Below.refl W.heap.size W).alloc (Nat.le_refl _) _).trans (b1.mono (by simp)))
 have hs1 := B1.out.size
 have hlt : W.heap.size < w1.heap.size := blk_lt hbk
 clear b1 hbk
 generalize hb : W.heap.size = b at *
 have HBe := As.mk hb
 clear hb
 go_wp2_with fail
 refine (zero_a _ _ _ _ _).mono ?_
 rintro e w2 ⟨rfl, b2⟩
 have B2 := As.mk b2
 clear b2
 go_wp2_with fail
 go_ret
 refine ⟨rfl, ?_⟩
 rw [HBe.out]
 exact B1.out.trans (((Below.refl b w1).alloc (by omega) _).trans (B2.out.mono (by simp; omega)))
set_option maxHeartbeats 4000000 in
set_option maxRecDepth 100000 in
theorem check3_a (l o s t : Int) (u : Bool) (ak ad : Option Addr) (ck cd : Nat) (hl : 1 ≤ l ∧ l < 1000000) (ho : 1 ≤ o ∧ o < 1000000) (hs : 0 ≤ s ∧ s < 16) (ht : 1 ≤ t ∧ t ≤ 255) (W : World) :
  Calls Tryz.prog 79 #[.agg #[.int .i64 3, .int .u64 l, .int .u32 1, .int .u32 o, .int .i64 s, .bool u, .int .i64 t, .int .i64 0, .int .u64 0, .slice ak 0 ck, .slice ad 0 cd]] W fun e W' => e = .returned (.int .i64 0) ∧ Below W.heap.size W W' := by
 have h1 : (l == 0) = false := by simpa using (show ¬ l = 0 by omega)
 go_enter Tryz.func79, Tryz.ntmps79
 go_wp2_with fail
 refine (bare_a _ _ _ _ _ _ _ _ _ _ _ _ _ _ _ _).mono ?_
 rintro e w1 ⟨rfl, b1⟩
 have hbk : w1.heap[W.heap.size]? = some (.cells #[.int .i64 3, .int .u64 l, .int .u32 1, .int .u32 o, .int .i64 s, .bool u, .int .i64 t, .int .i64 0, .int .u64 0, .slice ak 0 ck, .slice ad 0 cd] 41 (0, 0)) := (b1.block W.heap.size (by simp)).trans (heap_alloc_new W _)
 obtain ⟨k0, k1, k2, k3, k4, k5, k6, k7, k8, k9, k10⟩ := cells11 hbk
 have B1 := As.mk (((Below.refl W.heap.size W).alloc (Nat.le_refl _) _).trans (b1.mono (by simp)))
 have hs1 := B1.out.size
 have hlt : W.heap.size < w1.heap.size := blk_lt hbk
 clear b1 hbk
 generalize hb : W.heap.size = b at *
 have HBe := As.mk hb
 clear hb
 go_wp2_with fail
 refine (zero_a _ _ _ _ _).mono ?_
 rintro e w2 ⟨rfl, b2⟩
 have B2 := As.mk b2
 clear b2
 go_wp2_with fail
 go_ret
 refine ⟨rfl, ?_⟩
 rw [HBe.out]
 exact B1.out.trans (((Below.refl b w1).alloc (by omega) _).trans (B2.out.mono (by simp; omega)))
set_option maxHeartbeats 4000000 in
set_option maxRecDepth 100000 in
theorem check4_a (l o s t c : Int) (u : Bool) (ak ad : Option Addr) (ck cd : Nat) (hl : 1 ≤ l ∧ l < 1000000) (ho : 1 ≤ o ∧ o < 1000000) (hs : 0 ≤ s ∧ s < 16) (ht : 1 ≤ t ∧ t ≤ 255) (hc : 1 ≤ c ∧ c ≤ 3) (W : World) :
  Calls Tryz.prog 79 #[.agg #[.int .i64 4, .int .u64 l, .int .u32 1, .int .u32 o, .int .i64 s, .bool u, .int .i64 t, .int .i64 c, .int .u64 0, .slice ak 0 ck, .slice ad 0 cd]] W fun e W' => e = .returned (.int .i64 0) ∧ Below W.heap.size W W' := by
 have h1 : (l == 0) = false := by simpa using (show ¬ l = 0 by omega)
 go_enter Tryz.func79, Tryz.ntmps79
 go_wp2_with fail
 refine (bare_a _ _ _ _ _ _ _ _ _ _ _ _ _ _ _ _).mono ?_
 rintro e w1 ⟨rfl, b1⟩
 have hbk : w1.heap[W.heap.size]? = some (.cells #[.int .i64 4, .int .u64 l, .int .u32 1, .int .u32 o, .int .i64 s, .bool u, .int .i64 t, .int .i64 c, .int .u64 0, .slice ak 0 ck, .slice ad 0 cd] 41 (0, 0)) := (b1.block W.heap.size (by simp)).trans (heap_alloc_new W _)
 obtain ⟨k0, k1, k2, k3, k4, k5, k6, k7, k8, k9, k10⟩ := cells11 hbk
 have B1 := As.mk (((Below.refl W.heap.size W).alloc (Nat.le_refl _) _).trans (b1.mono (by simp)))
 have hs1 := B1.out.size
 have hlt : W.heap.size < w1.heap.size := blk_lt hbk
 clear b1 hbk
 generalize hb : W.heap.size = b at *
 have HBe := As.mk hb
 clear hb
 go_wp2_with fail
 refine (zero_a _ _ _ _ _).mono ?_
 rintro e w2 ⟨rfl, b2⟩
 have B2 := As.mk b2
 clear b2
 go_wp2_with fail
 go_ret
 refine ⟨rfl, ?_⟩
 rw [HBe.out]
 exact B1.out.trans (((Below.refl b w1).alloc (by omega) _).trans (B2.out.mono (by simp; omega)))
end Go.Proofs.YthfjhgdiakciaaaGreat.Bl
/- A region that draws its order and holds calls, over a condition on the world that holds behind every operation: what yields its value in every such world is taken first, the rest comes in one order. Condition: the Bool 'Region.planS'. -/
namespace Go
open Go.RowKit
section
variable {P : Program} {ops : Array Oper} {Q : Exit → Act → World → Prop} {md : Region.Mode} {S : World → Prop}
/-- Whatever order is picked from here on, and S holds behind every operation. -/
def wpStay (P : Program) (md : Region.Mode) (ops : Array Oper) (Q : Exit → Act → World → Prop) (S : World → Prop) : Nat → Array Bool → Act → World → Prop
 | 0, listed, a, w => Region.ready md ops listed = [] ∧ Q .normal a w
 | fuel + 1, listed, a, w =>
  (Region.ready md ops listed = [] → Q .normal a w) ∧
  ∀ i ∈ Region.ready md ops listed, wpOp P ops Q i (fun a' w' => S w' ∧ wpStay P md ops Q S fuel (listed.setIfInBounds i true) a' w') a w
theorem wpAny_of_stay : ∀ (fuel : Nat) (listed : Array Bool) (a : Act) (w : World), wpStay P md ops Q S fuel listed a w → wpAny P md ops Q fuel listed a w
 | 0, _, _, _, h => h
 | fuel + 1, _, _, _, h => ⟨h.1, fun i hi => wpOp_mono (fun a' w' h' => wpAny_of_stay fuel _ a' w' h'.2) (h.2 i hi)⟩
/-- One that yields its value in every world of S. -/
theorem wpStay_first {i : Nat} {oi : Oper} {v : Value} (hi : ops[i]? = some oi) (hsel : ∀ (j : Nat) (o : Oper) cs b, ops[j]? = some o → o.op ≠ .select cs b)
  (hQ : ∀ c a w, Q (.panic c) (a.put oi.dst v) w → Q (.panic c) a w) :
  ∀ (fuel : Nat) (listed : Array Bool) (a : Act) (w : World),
   (∀ j oj, ops[j]? = some oj → j ≠ i → listed.getD j true = false → (∀ e ∈ oj.after, Region.binds md e = true → e.on ≠ i) → oi.apart ops oj = true) →
   i ∈ Region.ready md ops listed → YieldsIf P ops S oi v a → S w →
   wpStay P md ops Q S fuel (listed.setIfInBounds i true) (a.put oi.dst v) w → wpStay P md ops Q S (fuel + 1) listed a w := by
 intro fuel
 induction fuel with
 | zero =>
  intro listed a w _ hr hy hS H
  refine ⟨fun h => (by rw [h] at hr; cases hr), fun j hj => ?_⟩
  by_cases hji : j = i
  ·subst hji; exact hy.wpOp hi hS ⟨hS, H⟩
  ·have := ready_mono hj hji
   rw [H.1] at this
   cases this
 | succ fuel ih =>
  intro listed a w hfree hr hy hS H
  refine ⟨fun h => (by rw [h] at hr; cases hr), fun j hj => ?_⟩
  by_cases hji : j = i
  ·subst hji; exact hy.wpOp hi hS ⟨hS, H⟩
  ·have h1 := H.2 j (ready_mono hj hji)
   obtain ⟨hjun, oj, hoj, hall⟩ := mem_ready.1 hj
   have hun := (mem_ready.1 hr).1
   have hnot : ∀ e ∈ oj.after, Region.binds md e = true → e.on ≠ i := fun e he hb heq => by
    have h1 := hall e he hb
    rw [heq, getD_both hun] at h1
    cases h1
   have h2 := wpOp_putIf hoj (hfree j oj hoj hji hjun hnot) (fun cs b => hsel i oi cs b hi) (fun cs b => hsel j oj cs b hoj) hQ hy h1
   have hfree' : ∀ k ok, ops[k]? = some ok → k ≠ i → (listed.setIfInBounds j true).getD k true = false →
     (∀ e ∈ ok.after, Region.binds md e = true → e.on ≠ i) → oi.apart ops ok = true := fun k ok hk hki hun hno => by
    refine hfree k ok hk hki ?_ hno
    by_cases hjk : j = k
    ·subst hjk; exact hjun
    ·rw [getD_set_ne true hjk] at hun; exact hun
   refine wpOp_mono (fun a' w' h3 => ⟨h3.2.1, ih (listed.setIfInBounds j true) a' w' hfree' (ready_mono hr (Ne.symm hji)) h3.1 h3.2.1 ?_⟩) h2
   rw [Array.setIfInBounds_comm _ _ hji]
   exact h3.2.2
/-- What an operation of the walk is: it yields in every world of S (0), in every world (1), it is the one that may come next (2). -/
def wpKept (P : Program) (ops : Array Oper) (Q : Exit → Act → World → Prop) (S : World → Prop) : List (Nat × Nat × Oper) → Act → World → Prop
 | [], a, w => Q .normal a w
 | (0, _, o) :: rest, a, w => if Region.wanted o (yielded ops a.tmps) = true then ∃ v, (∀ w', S w' → (execOp a.eval o).run P w' = .ok (.value v) w') ∧ wpKept P ops Q S rest (a.put o.dst v) w else wpKept P ops Q S rest (a.put o.dst undef) w
 | (1, _, o) :: rest, a, w => if Region.wanted o (yielded ops a.tmps) = true then ∃ v, (∀ w', (execOp a.eval o).run P w' = .ok (.value v) w') ∧ wpKept P ops Q S rest (a.put o.dst v) w else wpKept P ops Q S rest (a.put o.dst undef) w
 | (_, _, o) :: rest, a, w => if Region.wanted o (yielded ops a.tmps) = true then Oper.wp P o a w (fun a' w' => S w' ∧ wpKept P ops Q S rest a' w') Q else wpKept P ops Q S rest (a.put o.dst undef) w
def Region.planS (md : Region.Mode) (ops : Array Oper) : List (Nat × Nat) → Array Bool → Bool
 | [], listed => (Region.ready md ops listed).isEmpty
 | (0, i) :: rest, listed => (Region.ready md ops listed).contains i && Region.free md ops listed i && Region.planS md ops rest (listed.setIfInBounds i true)
 | (1, i) :: rest, listed => (Region.ready md ops listed).contains i && Region.free md ops listed i && Region.planS md ops rest (listed.setIfInBounds i true)
 | (_, i) :: rest, listed => decide (Region.ready md ops listed = [i]) && Region.planS md ops rest (listed.setIfInBounds i true)
theorem wpStay_of_kept (hsel : Region.noSelect ops = true) (hQ : ∀ c a d v w, Q (.panic c) (Act.put a d v) w → Q (.panic c) a w) :
  ∀ (l : List (Nat × Nat × Oper)) (listed : Array Bool) (a : Act) (w : World), (∀ x ∈ l, ops[x.2.1]? = some x.2.2) → Region.planS md ops (l.map fun x => (x.1, x.2.1)) listed = true →
   S w → wpKept P ops Q S l a w → wpStay P md ops Q S l.length listed a w := by
 intro l
 induction l with
 | nil => exact fun listed a w _ hB _ h => ⟨by simpa [Region.planS] using hB, h⟩
 | cons x rest ih =>
  intro listed a w hops hB hS h
  obtain ⟨t, i, o⟩ := x
  have hi : ops[i]? = some o := hops (t, i, o) List.mem_cons_self
  have hrest : ∀ x ∈ rest, ops[x.2.1]? = some x.2.2 := fun x hx => hops x (List.mem_cons_of_mem _ hx)
  match t with
  | 0 =>
   simp only [List.map_cons, Region.planS, Bool.and_eq_true] at hB
   obtain ⟨⟨hr, hf⟩, hB'⟩ := hB
   have hr' : i ∈ Region.ready md ops listed := by simpa using hr
   simp only [wpKept] at h
   by_cases hwt : Region.wanted o (yielded ops a.tmps) = true
   ·rw [if_pos hwt] at h
    obtain ⟨v, hv, hK⟩ := h
    exact wpStay_first hi (Region.noSelect_spec hsel) (fun c a w => hQ c a _ _ w) _ listed a w (Region.free_spec hi hf) hr' (.inl ⟨hwt, hv⟩) hS (ih _ _ _ hrest hB' hS hK)
   ·rw [if_neg hwt] at h
    exact wpStay_first hi (Region.noSelect_spec hsel) (fun c a w => hQ c a _ _ w) _ listed a w (Region.free_spec hi hf) hr' (.inr ⟨by simpa using hwt, rfl⟩) hS (ih _ _ _ hrest hB' hS h)
  | 1 =>
   simp only [List.map_cons, Region.planS, Bool.and_eq_true] at hB
   obtain ⟨⟨hr, hf⟩, hB'⟩ := hB
   have hr' : i ∈ Region.ready md ops listed := by simpa using hr
   simp only [wpKept] at h
   by_cases hwt : Region.wanted o (yielded ops a.tmps) = true
   ·rw [if_pos hwt] at h
    obtain ⟨v, hv, hK⟩ := h
    exact wpStay_first hi (Region.noSelect_spec hsel) (fun c a w => hQ c a _ _ w) _ listed a w (Region.free_spec hi hf) hr' (.inl ⟨hwt, fun w _ => hv w⟩) hS (ih _ _ _ hrest hB' hS hK)
   ·rw [if_neg hwt] at h
    exact wpStay_first hi (Region.noSelect_spec hsel) (fun c a w => hQ c a _ _ w) _ listed a w (Region.free_spec hi hf) hr' (.inr ⟨by simpa using hwt, rfl⟩) hS (ih _ _ _ hrest hB' hS h)
  | t + 2 =>
   simp only [List.map_cons, Region.planS, Bool.and_eq_true, decide_eq_true_eq] at hB
   obtain ⟨hr, hB'⟩ := hB
   refine ⟨fun h0 => (by rw [h0] at hr; cases hr), fun j hj => ?_⟩
   rw [hr] at hj
   have hji : j = i := by simpa using hj
   subst hji
   have h' : if Region.wanted o (yielded ops a.tmps) = true then Oper.wp P o a w (fun a' w' => S w' ∧ wpKept P ops Q S rest a' w') Q else wpKept P ops Q S rest (a.put o.dst undef) w := h
   have key : ∀ a' w', (S w' ∧ wpKept P ops Q S rest a' w') → S w' ∧ wpStay P md ops Q S rest.length (listed.setIfInBounds j true) a' w' := fun a' w' h' => ⟨h'.1, ih _ _ _ hrest hB' h'.1 h'.2⟩
   refine wpOp_mono key ?_
   unfold wpOp
   rw [hi]
   show if Region.wanted o (yielded ops a.tmps) = true then _ else _
   by_cases hwt : Region.wanted o (yielded ops a.tmps) = true
   ·rw [if_pos hwt] at h' ⊢; exact .inl h'
   ·rw [if_neg hwt] at h' ⊢; exact ⟨hS, h'⟩
theorem wp_region_plan_kept {id : Nat} {a : Act} {w : World} (S : World → Prop) (l : List (Nat × Nat)) (hm : P.follows .mixedOrders = true) (hsel : Region.noSelect ops = true)
  (hl : ((tagged ops l).length == ops.size) = true) (hB : Region.planS .any ops ((tagged ops l).map fun x => (x.1, x.2.1)) (Array.replicate ops.size false) = true)
  (hQ0 : ∀ c a n v w, Q (.panic c) (Act.put a (some n) v) w → Q (.panic c) a w) (hS : S w.drew) (h : wpKept P ops Q S (tagged ops l) a w.drew) : (Code.region id ops true).wp P Q a w := by
 have hQ : ∀ c a d v w, Q (.panic c) (Act.put a d v) w → Q (.panic c) a w := fun c a d v w h => by
  cases d with
  | none => exact h
  | some n => exact hQ0 c a n v w h
 refine wp_region_any hm (wpAny_of_stay (S := S) _ _ _ _ ?_)
 have := wpStay_of_kept (md := .any) hsel hQ (tagged ops l) _ a w.drew (tagged_ok l) hB hS h
 have hl' : (tagged ops l).length = ops.size := by simpa using hl
 rwa [hl'] at this
theorem wpKept_nil {a : Act} {w : World} (h : Q .normal a w) : wpKept P ops Q S [] a w := h
theorem wpKept_take {i : Nat} {o : Oper} {rest : List (Nat × Nat × Oper)} {a : Act} {w : World}
  (h : ∀ K : Act → Prop, (∀ a, wpKept P ops Q S rest a w → K a) → if Region.wanted o (yielded ops a.tmps) = true then ∃ v, (∀ w', S w' → (execOp a.eval o).run P w' = .ok (.value v) w') ∧ K (a.put o.dst v) else K (a.put o.dst undef)) : wpKept P ops Q S ((0, i, o) :: rest) a w :=
 h _ (fun _ h => h)
theorem wpKept_sure {i : Nat} {o : Oper} {rest : List (Nat × Nat × Oper)} {a : Act} {w : World}
  (h : ∀ K : Act → Prop, (∀ a, wpKept P ops Q S rest a w → K a) → if Region.wanted o (yielded ops a.tmps) = true then ∃ v, (∀ w', (execOp a.eval o).run P w' = .ok (.value v) w') ∧ K (a.put o.dst v) else K (a.put o.dst undef)) : wpKept P ops Q S ((1, i, o) :: rest) a w :=
 h _ (fun _ h => h)
theorem wpKept_next {i : Nat} {o : Oper} {rest : List (Nat × Nat × Oper)} {a : Act} {w : World}
  (h : ∀ K : Act → World → Prop, (∀ a w, S w → wpKept P ops Q S rest a w → K a w) → if Region.wanted o (yielded ops a.tmps) = true then Oper.wp P o a w K Q else wpKept P ops Q S rest (a.put o.dst undef) w) : wpKept P ops Q S ((2, i, o) :: rest) a w :=
 h _ (fun _ _ h1 h2 => ⟨h1, h2⟩)
end
end Go
