/- An entry comes (ledger.Apply): an order. Condition: Check says yes; the ledger lies in memory as it is told. -/
import Derived.Test.YthfjhgdiakciaaaGreatM16
namespace Go.Proofs.YthfjhgdiakciaaaGreat.Bl
open Go.RowKit Go.Maps
set_option linter.unusedVariables false
set_option linter.unusedSimpArgs false
theorem strOf_inj {a b : Nat} (ha : a < 256) (hb : b < 256) (h : (strOfNums [(a : Int)]).data.toList = (strOfNums [(b : Int)]).data.toList) : a = b := by
 rw [strOfNums_data, strOfNums_data] at h
 have h : UInt8.ofNat a = UInt8.ofNat b := by simpa using h
 have := congrArg UInt8.toNat h
 rw [UInt8.toNat_ofNat', UInt8.toNat_ofNat'] at this
 omega
theorem keys_put {D : DataW Unit} {l : List Or} (h : KeysAre D l) (hm : Maps.IsMap D) (k : Nat) (hk : k < 256) (v : DataW Unit) (d : Nat) (s : Sg) : KeysAre (D.put (.string (strOfNums [(k : Int)]).data.toList) v) (l ++ [⟨k, d, s⟩]) := by
 intro k' hk'
 by_cases e : k' = k
 ·subst e
  rw [Maps.has_put_same (k := .string (strOfNums [(k' : Int)]).data.toList) hm True.intro]
  exact (decide_eq_true ⟨_, List.mem_append_right _ (List.mem_singleton.2 rfl), rfl⟩).symm
 ·rw [Maps.has_put_other (fun h => by injection h with h; exact e (strOf_inj hk' hk h)), h k' hk']
  congr 1
  apply propext
  constructor
  ·rintro ⟨o, ho, hh⟩; exact ⟨o, List.mem_append_left _ ho, hh⟩
  ·rintro ⟨o, ho, hh⟩
   rcases List.mem_append.1 ho with ho | ho
   ·exact ⟨o, ho, hh⟩
   ·rw [List.mem_singleton.1 ho] at hh; exact absurd hh.symm e
theorem OrsAt.app {W' : World} {own' : Nat → Prop} {T sz : Nat} {tl : List Value} {l : List Or} {g cap : Nat} {o : Or} {c : List Value} {cs : List (List Value)} (h1 : cs.length = l.length)
  (h4 : ∀ (i : Nat) (o : Or), l[i]? = some o → ∃ c, cs[i]? = some c ∧ OrAt W' (fun k => own' k ∧ ¬ (Value.slice (some ⟨g, 0, none⟩) (l.length + 1) cap).ownBlock = some k) tl (i + 1) o c)
  (hn : W'.ownsRow 0 T sz (.slice (some ⟨g, 0, none⟩) (l.length + 1) cap) (l.length + 1) (cs.flatten ++ c)) (hg : own' g) (he : OrAt W' (fun k => own' k ∧ ¬ (Value.slice (some ⟨g, 0, none⟩) (l.length + 1) cap).ownBlock = some k) tl (l.length + 1) o c) : OrsAt W' own' T sz tl (.slice (some ⟨g, 0, none⟩) (l.length + 1) cap) (l ++ [o]) := by
 refine ⟨cs ++ [c], by simp [h1], ?_, fun g' hg' => by rw [← ob_eq hg']; exact hg, fun i x hx => ?_⟩
 ·have e1 : (cs ++ [c]).flatten = cs.flatten ++ c := by simp
  rw [e1, List.length_append]
  exact hn
 ·by_cases hi : i < l.length
  ·rw [List.getElem?_append_left hi] at hx
   obtain ⟨y, a, b⟩ := h4 i x hx
   exact ⟨y, by rw [List.getElem?_append_left (by omega)]; exact a, b⟩
  ·have : i = l.length := by
    have := (List.getElem?_eq_some_iff.1 hx).1
    rw [List.length_append] at this
    simp at this
    omega
   subst this
   rw [List.getElem?_append_right (Nat.le_refl _), Nat.sub_self] at hx
   obtain rfl : o = x := by simpa using hx
   exact ⟨c, by rw [List.getElem?_append_right (by omega), h1, Nat.sub_self]; rfl, he⟩
theorem info120 : (Tryz.prog.info? 120).map (fun i => (i.zero, i.size, i.bytes)) = some (some (.agg #[.int .u32 0, .slice none 0 0, .slice none 0 0, .int .i64 0, .int .i64 0, .int .i64 0, .bool false, .int .i64 0, .bool false, .int .i64 0, .bool false]), 11, 120) := by kernel_rfl
set_option maxRecDepth 100000 in
theorem wp_build86 {o : Oper} {a : Act} {w : World} {K : Act → World → Prop} {Q : Exit → Act → World → Prop} (x : Operand) (ho : o.op = .buildSlice 86 1 #[(0, x)]) (cs : List Value) (hx : a.eval x = .agg cs.toArray) (hl : cs.length = 11)
  (h : K (a.put o.dst (.slice (some ⟨w.heap.size, 0, none⟩) 1 1)) (w.alloc (.cells cs.toArray 120 (0, 0)))) : o.wp Tryz.prog a w K Q := by
 obtain ⟨i0, hi, hz0, hz1, hz2⟩ := info_parts info120
 refine wp_buildSlice 86 120 1 #[(0, x)] ho cs.toArray i0 _ Tryz.underlying86 hi hz0 (by rw [hz1]; decide) (by rw [hz1]; decide) ?_ h
 have := Great.fill_whole (s := 11) (by omega) [.agg cs.toArray] ((Array.range (1 * i0.size)).map ((Value.agg #[.int .u32 0, .slice none 0 0, .slice none 0 0, .int .i64 0, .int .i64 0, .int .i64 0, .bool false, .int .i64 0, .bool false, .int .i64 0, .bool false]).cells[· % (Value.agg #[.int .u32 0, .slice none 0 0, .slice none 0 0, .int .i64 0, .int .i64 0, .int .i64 0, .bool false, .int .i64 0, .bool false, .int .i64 0, .bool false]).cells.size]!)) (fun v hv => by
  obtain rfl : v = .agg cs.toArray := by simpa using hv
  show cs.toArray.size = 11
  rw [List.size_toArray, hl]) (by simp [hz1])
 rw [hz1] at this ⊢
 simp only [List.flatMap_cons, List.flatMap_nil, List.append_nil] at this
 refine Eq.trans ?_ (this.trans ?_)
 ·congr 1
  simp [hx]
 ·rfl
theorem orC_one (n : Int) (a b : Option Addr) (ck cd : Nat) : ∀ v ∈ ([.int .u32 n, .slice a 1 ck, .slice b 1 cd, .int .i64 1, .int .i64 0, .int .i64 0, .bool false, .int .i64 0, .bool false, .int .i64 0] : List Value), v.oneCell' = true := fun v hv => by
 simp only [List.mem_cons, List.not_mem_nil, or_false] at hv
 rcases hv with rfl | rfl | rfl | rfl | rfl | rfl | rfl | rfl | rfl | rfl <;> rfl
/-- The ledger, an order more. -/
def LedNext (W W' : World) (OP OL : Nat → Prop) (lb mb : Nat) (pv : Value) (ps : List (List Stp)) (l : List Or) (last : Nat) (nt : Int) : Prop :=
 ∃ lv' y OL', LedAt W' OP OL' lb mb pv lv' ps l last y nt ∧ (∀ k, OL' k → OL k ∨ W.heap.size ≤ k) ∧ Frame (fun k => OL k ∨ k = lb ∨ k = mb) W W'
theorem ledNext_of {W wf w13 w14 wn : World} {OP OL : Nat → Prop} {lb mb n c last b13 gg cap k d gk gd kk kd : Nat} {pv : Value} {A : Option Addr} {tk nt y : Int} {ps : List (List Stp)} {l : List Or} {cs : List (List Value)} {D : DataW Unit} {v : DataW Unit}
  (hled : LedAt W OP OL lb mb pv (.slice A n c) ps l last tk nt) (hkeys : KeysAre D l) (hk256 : k < 256) (hln : l.length = n) (r1 : cs.length = l.length)
  (r4 : ∀ (i : Nat) (o : Or), l[i]? = some o → ∃ c', cs[i]? = some c' ∧ OrAt W (fun k => OL k ∧ ¬ (Value.slice A n c).ownBlock = some k) [.bool false] (i + 1) o c')
  (ff : Frame (fun k => k = lb ∨ k = mb) W wf) (mf : wf.ownsMap Tryz.prog 9 (plainElem Tryz.prog 38) mb (l.length + 1) (D.put (.string (strOfNums [(k : Int)]).data.toList) v)) (hm : Maps.IsMap D)
  (b13b : Below wf.heap.size wf w13) (hb13 : b13 = wf.heap.size)
  (hbN : wn.heap[lb]? = some (.cells (#[pv, .slice A n c, .map (some mb), .int .u64 ((last : Int) + 1), .int .u32 1, .int .i64 1, .int .i64 y, .int .i64 nt].setIfInBounds 1 (.slice (some ⟨gg, 0, none⟩) (n + 1) cap)) 93 (0, 0))) (hBN : Below lb w14 wn) (hsN : wn.heap.size = w14.heap.size) (hfN : ∀ q, q ≠ lb → wn.heap[q]? = w14.heap[q]?)
  (hg : w13.heap.size ≤ w14.heap.size) (hW13 : w13.heap.size = b13 + 1) (hown : w14.ownsRow 0 120 11 (.slice (some ⟨gg, 0, none⟩) (n + 1) cap) (n + 1) (cs.flatten ++ [.int .u32 ((n : Int) + 1), .slice (some ⟨gk, 0, none⟩) 1 kk, .slice (some ⟨gd, 0, none⟩) 1 kd, .int .i64 1, .int .i64 0, .int .i64 0, .bool false, .int .i64 0, .bool false, .int .i64 0, .bool false]))
  (hat : (Value.slice A n c).ownBlock = some gg ∨ gg = b13 + 1) (hlt : gg < w14.heap.size) (gkf : Bytes wf (some ⟨gk, 0, none⟩) [(k : Int)]) (gdf : Bytes wf (some ⟨gd, 0, none⟩) [(d : Int)]) (lkf : gk < wf.heap.size) (ldf : gd < wf.heap.size) (ok : W.heap.size ≤ gk) (od : W.heap.size ≤ gd)
  (sz : W.heap.size ≤ wf.heap.size ∧ lb < W.heap.size ∧ mb < W.heap.size ∧ lb ≠ mb) (n14 : ∀ q, q < b13 + 1 → (¬ OL q ∨ W.heap.size ≤ q ∨ ¬ (Value.slice A n c).ownBlock = some q) → w14.heap[q]? = w13.heap[q]?) (hv : ∀ q, (Value.slice A n c).ownBlock = some q → OL q ∧ q < W.heap.size) (h14 : Below 0 w13 w14) :
  LedNext W wn OP OL lb mb pv ps (l ++ [⟨k, d, startS⟩]) (last + 1) nt := by
 obtain ⟨z1, z2, z3, z4⟩ := sz
 have s1 := hled.s1
 have hnew : ∀ q, W.heap.size ≤ q → q < wf.heap.size → wn.heap[q]? = wf.heap[q]? := fun q h1 h2 => (hfN q (by omega)).trans ((n14 q (by omega) (.inr (.inl h1))).trans (b13b.block q h2))
 have hold : ∀ q, q < W.heap.size → ¬ (Value.slice A n c).ownBlock = some q → q ≠ lb → q ≠ mb → wn.heap[q]? = W.heap[q]? := fun q h1 h2 h3 h4 => (hfN q h3).trans ((n14 q (by omega) (.inr (.inr h2))).trans ((b13b.block q (by omega)).trans (ff.block q h1 (fun h => h.elim h3 h4))))
 have hmb : wn.heap[mb]? = wf.heap[mb]? := (hfN mb (fun h => z4 h.symm)).trans ((n14 mb (by omega) (.inl s1.2.1)).trans (b13b.block mb (by omega)))
 have hggne : ∀ q, q < W.heap.size → ¬ (Value.slice A n c).ownBlock = some q → ¬ (Value.slice (some ⟨gg, 0, none⟩) (n + 1) cap).ownBlock = some q := fun q h1 h2 h3 => by
  have h3 := ob_eq h3
  rcases hat with h | h
  ·exact h2 (h3 ▸ h)
  ·omega
 have hggnew : ∀ q, W.heap.size ≤ q → q < wf.heap.size → ¬ (Value.slice (some ⟨gg, 0, none⟩) (n + 1) cap).ownBlock = some q := fun q h1 h2 h3 => by
  have h3 := ob_eq h3
  rcases hat with h | h
  ·have := (hv gg h).2; omega
  ·omega
 refine ⟨.slice (some ⟨gg, 0, none⟩) (n + 1) cap, y, fun k => OL k ∨ (W.heap.size ≤ k ∧ k < wn.heap.size), ⟨?_, ?_, ?_, ?_, ?_, ?_, ?_, ?_⟩, fun k hk => hk.imp id (fun h => h.1), ?_⟩
 ·rw [hbN]
  have : epF (last + 1) = 1 := by simp [epF]
  rw [this]
  rfl
 ·exact hled.rules.keep (fun q ho hq => hold q hq (fun h => hled.s2 q ho (hv q h).1) (fun h => s1.2.2.1 (h ▸ ho)) (fun h => s1.2.2.2 (h ▸ ho))) (by omega)
 ·subst hln
  refine OrsAt.app (cs := cs) (c := [.int .u32 ((l.length : Int) + 1), .slice (some ⟨gk, 0, none⟩) 1 kk, .slice (some ⟨gd, 0, none⟩) 1 kd, .int .i64 1, .int .i64 0, .int .i64 0, .bool false, .int .i64 0, .bool false, .int .i64 0, .bool false]) r1 (fun i o ho => ?_) ?_ ?_ ?_
  ·obtain ⟨c', a, b⟩ := r4 i o ho
   have b1 := b.mono (own' := fun k => (OL k ∧ ¬ (Value.slice A l.length c).ownBlock = some k) ∧ k < W.heap.size) (fun q hq hl => ⟨hq, hl⟩)
   exact ⟨c', a, (b1.keep (W' := wn) (fun q hq hl => hold q hl hq.1.2 (fun h => s1.1 (h ▸ hq.1.1)) (fun h => s1.2.1 (h ▸ hq.1.1))) (by omega)).mono (fun q hq _ => ⟨.inl hq.1.1, hggne q hq.2 hq.1.2⟩)⟩
  ·exact own_keep hown (fun q hq _ => hfN q (fun h => by
    have := ob_eq hq
    rcases hat with h' | h'
    ·exact s1.1 (h ▸ this ▸ (hv gg h').1)
    ·omega))
  ·rcases hat with h | h
   ·exact .inl (hv gg h).1
   ·exact .inr ⟨by omega, by omega⟩
  ·refine ⟨some ⟨gk, 0, none⟩, kk, some ⟨gd, 0, none⟩, kd, rfl, ?_, ?_, ?_, ?_⟩
   ·exact gkf.keep (fun q o ha hq => by injection ha with ha; injection ha with ha; subst ha; exact hnew gk ok lkf) (by omega)
   ·exact gdf.keep (fun q o ha hq => by injection ha with ha; injection ha with ha; subst ha; exact hnew gd od ldf) (by omega)
   ·intro q o ha; injection ha with ha; injection ha with ha; subst ha; exact ⟨.inr ⟨ok, by omega⟩, hggnew gk ok lkf⟩
   ·intro q o ha; injection ha with ha; injection ha with ha; subst ha; exact ⟨.inr ⟨od, by omega⟩, hggnew gd od ldf⟩
 ·refine ⟨_, ?_, keys_put hkeys hm k hk256 v d startS⟩
  have := ownsMap_keep (W' := wn) mf hmb
  rw [List.length_append]
  exact this
 ·exact ⟨fun h => h.elim s1.1 (fun h => by omega), fun h => h.elim s1.2.1 (fun h => by omega), s1.2.2.1, s1.2.2.2⟩
 ·exact fun q ho h => h.elim (hled.s2 q ho) (fun h => by have := hled.b1 q ho; omega)
 ·exact fun q ho => by have := hled.b1 q ho; omega
 ·exact fun q ho => ho.elim (fun h => by have := hled.b2 q h; omega) (fun h => h.2)
 ·refine ⟨((ff.low.trans (b13b.mono (Nat.zero_le _))).trans h14).trans (hBN.mono (Nat.zero_le _)), fun q hq ho => ?_⟩
  exact hold q hq (fun h => ho (.inl (hv q h).1)) (fun h => ho (.inr (.inl h))) (fun h => ho (.inr (.inr h)))
set_option maxHeartbeats 8000000 in
set_option maxRecDepth 100000 in
theorem apply_order_l {W : World} {OP OL : Nat → Prop} {lb mb n c last : Nat} {pv : Value} {A : Option Addr} {tk nt : Int} {ps : List (List Stp)} {l : List Or} (hled : LedAt W OP OL lb mb pv (.slice A n c) ps l last tk nt) (hln : l.length = n) (hn : n < 500)
  {ak ad : Option Addr} {ck cd k d : Nat} (hk : Bytes W ak [(k : Int)]) (hd : Bytes W ad [(d : Int)]) (hko : ∀ q o, ak = some ⟨q, o, none⟩ → q ≠ lb ∧ q ≠ mb) (hdo : ∀ q o, ad = some ⟨q, o, none⟩ → q ≠ lb ∧ q ≠ mb) (hk256 : k < 256)
  (hC : ∀ w, Below W.heap.size W w → Calls Tryz.prog 38 #[.pointer (some ⟨lb, 0, none⟩), .agg #[.int .i64 2, .int .u64 ((last : Int) + 1), .int .u32 1, .int .u32 ((n : Int) + 1), .int .i64 0, .bool false, .int .i64 0, .int .i64 0, .int .u64 0, .slice ak 1 ck, .slice ad 1 cd]] w fun e W' => e = .returned (.int .i64 0) ∧ Below w.heap.size w W') :
  Calls Tryz.prog 13 #[.pointer (some ⟨lb, 0, none⟩), .agg #[.int .i64 2, .int .u64 ((last : Int) + 1), .int .u32 1, .int .u32 ((n : Int) + 1), .int .i64 0, .bool false, .int .i64 0, .int .i64 0, .int .u64 0, .slice ak 1 ck, .slice ad 1 cd]] W fun e W' => e = .returned (.int .i64 0) ∧ LedNext W W' OP OL lb mb pv ps (l ++ [⟨k, d, startS⟩]) (last + 1) nt := by
 have HLED := As.mk hled
 obtain ⟨D, hmap, hkeys⟩ := hled.map
 have HMAP := As.mk hmap
 have HKEYS := As.mk hkeys
 have HISM := As.mk hmap.isMap
 have hmlt := hmap.lt
 have hlm : lb ≠ mb := fun h => by
  obtain ⟨es, clock, hh, _⟩ := hmap
  have h2 := hled.blk
  rw [h, hh] at h2
  cases h2
 have HAK : As (∀ w, Frame (fun k => k = lb ∨ k = mb) W w → Bytes w ak [(k : Int)]) := ⟨fun w hw => hk.keep (fun q o ha hq => hw.block q hq (fun h => h.elim (hko q o ha).1 (hko q o ha).2)) hw.low.size⟩
 have HAD : As (∀ w, Frame (fun k => k = lb ∨ k = mb) W w → Bytes w ad [(d : Int)]) := ⟨fun w hw => hd.keep (fun q o ha hq => hw.block q hq (fun h => h.elim (hdo q o ha).1 (hdo q o ha).2)) hw.low.size⟩
 have HCV : As (∀ w, Bytes w ak [(k : Int)] → (convert 39 9 (.slice ak 1 ck)).run Tryz.prog w = .ok (.string (strOfNums [(k : Int)])) w) := ⟨fun w h => conv_bytes h ck⟩
 have hb := hled.blk
 obtain ⟨ep, hep⟩ : ∃ ep, epF last = ep := ⟨_, rfl⟩
 rw [hep] at hb
 have HLN := As.mk hln
 clear hled hmap hkeys hk hd hko hdo hep hln
 have HC : As (∀ w, Below W.heap.size W w → Calls Tryz.prog 38 #[.pointer (some ⟨lb, 0, none⟩), .agg #[.int .i64 2, .int .u64 ((last : Int) + 1), .int .u32 1, .int .u32 ((n : Int) + 1), .int .i64 0, .bool false, .int .i64 0, .int .i64 0, .int .u64 0, .slice ak 1 ck, .slice ad 1 cd]] w fun e W' => e = .returned (.int .i64 0) ∧ Below w.heap.size w W') := ⟨hC⟩
 have HB := As.mk hb
 have hlb := blk_lt hb
 clear hb hC
 go_enter Tryz.func13, Tryz.ntmps13
 go_wp2_with fail
 refine (HC.out _ ((Below.refl _ W).alloc (Nat.le_refl _) _)).mono ?_
 rintro e w1 ⟨rfl, q1⟩
 have hbox1 := As.mk ((q1.block W.heap.size (by simp)).trans (heap_alloc_new W _))
 have B1 : As (Below W.heap.size W w1) := ⟨((Below.refl _ W).alloc (Nat.le_refl _) _).trans (q1.mono (by simp))⟩
 have hb1 := As.mk ((B1.out.block lb hlb).trans HB.out)
 have hs1 := B1.out.size
 have c6 := (blk_cell hb1.out 6).trans rfl
 have f6 := blk_frozen hb1.out 6
 clear q1 HC
 go_wp2_with fail
 refine (add_a c6 f6).mono ?_
 rintro e w2 ⟨⟨v, rfl⟩, y, rfl⟩
 have hb2 : As ((w1.setCell ⟨lb, 6, none⟩ (.int .i64 y)).heap[lb]? = some (.cells #[pv, .slice A n c, .map (some mb), .int .u64 last, .int .u32 ep, .int .i64 1, .int .i64 y, .int .i64 nt] 93 (0, 0))) := ⟨(blk_put hb1.out 6 _).trans rfl⟩
 have hbox2 : As ((w1.setCell ⟨lb, 6, none⟩ (.int .i64 y)).heap[W.heap.size]? = some (.cells #[.int .i64 2, .int .u64 ((last : Int) + 1), .int .u32 1, .int .u32 ((n : Int) + 1), .int .i64 0, .bool false, .int .i64 0, .int .i64 0, .int .u64 0, .slice ak 1 ck, .slice ad 1 cd] 41 (0, 0))) := ⟨blk_far hbox1.out (by omega) _⟩
 have F2 : As (Frame (fun k => k = lb) W (w1.setCell ⟨lb, 6, none⟩ (.int .i64 y))) := ⟨(Frame.of_below (own := fun k => k = lb) B1.out (Nat.le_refl _)).setCell (p := ⟨lb, 6, none⟩) (.inl rfl) _⟩
 generalize w1.setCell ⟨lb, 6, none⟩ (.int .i64 y) = w2 at *
 clear c6 f6 hb1 hbox1 B1
 have c3 := (blk_cell hb2.out 3).trans rfl
 have c4 := (blk_cell hb2.out 4).trans rfl
 have f3 := blk_frozen hb2.out 3
 have f4 := blk_frozen hb2.out 4
 have x1 := (blk_cell hbox2.out 1).trans rfl
 have x2 := (blk_cell hbox2.out 2).trans rfl
 have hs2 := F2.out.low.size
 obtain ⟨b3, hb3⟩ : ∃ b3, b3 = W.heap.size := ⟨_, rfl⟩
 rw [← hb3] at hbox2 x1 x2 ⊢
 have HB3 : As (b3 = W.heap.size ∧ lb < b3) := ⟨hb3, by omega⟩
 clear hb3
 go_upto_region 7 with fail
 go_region
 have hb3 : As ((((w2.setCell ⟨lb, 3, none⟩ (.int .u64 ((last : Int) + 1))).setCell ⟨lb, 4, none⟩ (.int .u32 1)).drew).heap[lb]? = some (.cells #[pv, .slice A n c, .map (some mb), .int .u64 ((last : Int) + 1), .int .u32 1, .int .i64 1, .int .i64 y, .int .i64 nt] 93 (0, 0))) := ⟨by
  show ((w2.setCell ⟨lb, 3, none⟩ (.int .u64 ((last : Int) + 1))).setCell ⟨lb, 4, none⟩ (.int .u32 1)).heap[lb]? = _
  rw [blk_put (blk_put hb2.out 3 _) 4 _]
  rfl⟩
 have hbox3 : As ((((w2.setCell ⟨lb, 3, none⟩ (.int .u64 ((last : Int) + 1))).setCell ⟨lb, 4, none⟩ (.int .u32 1)).drew).heap[b3]? = some (.cells #[.int .i64 2, .int .u64 ((last : Int) + 1), .int .u32 1, .int .u32 ((n : Int) + 1), .int .i64 0, .bool false, .int .i64 0, .int .i64 0, .int .u64 0, .slice ak 1 ck, .slice ad 1 cd] 41 (0, 0))) := ⟨blk_far (blk_far hbox2.out (by have := HB3.out.2; omega) _) (by have := HB3.out.2; omega) _⟩
 have F3 : As (Frame (fun k => k = lb) W (((w2.setCell ⟨lb, 3, none⟩ (.int .u64 ((last : Int) + 1))).setCell ⟨lb, 4, none⟩ (.int .u32 1)).drew)) := ⟨((F2.out.setCell (p := ⟨lb, 3, none⟩) (.inl rfl) _).setCell (p := ⟨lb, 4, none⟩) (.inl rfl) _).drew⟩
 generalize ((w2.setCell ⟨lb, 3, none⟩ (.int .u64 ((last : Int) + 1))).setCell ⟨lb, 4, none⟩ (.int .u32 1)).drew = w3 at *
 clear c3 c4 f3 f4 x1 x2 hb2 hbox2 F2 hs2 hs1
 have hs3 := F3.out.low.size
 have F3m : As (Frame (fun k => k = lb ∨ k = mb) W w3) := ⟨F3.out.mono (fun k h => .inl h)⟩
 have M3 : As (w3.ownsMap Tryz.prog 9 (plainElem Tryz.prog 38) mb l.length D) := ⟨ownsMap_keep HMAP.out (F3.out.block mb hmlt (fun h => hlm h.symm))⟩
 have K3 := As.mk (HAK.out w3 F3m.out)
 clear F3 HMAP
 obtain ⟨x0, x1, x2, x3, x4, x5, x6, x7, x8, x9, x10⟩ := cells11 hbox3.out
 go_upto_region 10 with fail
 refine wp_region_plan_held 9 (fun w' => w'.heap[lb]? = some (.cells #[pv, .slice A n c, .map (some mb), .int .u64 ((last : Int) + 1), .int .u32 1, .int .i64 1, .int .i64 y, .int .i64 nt] 93 (0, 0)) ∧ w'.heap[b3]? = some (.cells #[.int .i64 2, .int .u64 ((last : Int) + 1), .int .u32 1, .int .u32 ((n : Int) + 1), .int .i64 0, .bool false, .int .i64 0, .int .i64 0, .int .u64 0, .slice ak 1 ck, .slice ad 1 cd] 41 (0, 0)) ∧ Bytes w' ak [(k : Int)]) [(1,0),(1,1),(1,2),(0,3),(1,4),(0,5),(0,6),(1,7),(0,8),(2,9)] (by kernel_rfl) (by kernel_rfl) (by kernel_rfl) (by kernel_rfl) (fun _ _ _ _ _ h => h) ⟨hb3.out, hbox3.out, K3.out⟩ ?_
 simp only [tagged, List.filterMap_cons, List.filterMap_nil, List.getElem?_toArray, List.getElem?_cons_succ, List.getElem?_cons_zero, Option.map_some]
 clear x0 x1 x2 x3 x4 x5 x6 x7 x8 x9 x10
 iterate 3 (with_reducible refine wpHeld_sure (fun K hK => ?_); go_simp; with_reducible refine hK _ ?_; clear hK K)
 refine wpHeld_take (fun K hK => ?_)
 rw [if_pos (by rfl)]
 apply Exists.intro
 refine ⟨fun w' hw' => ?_, hK _ ?_⟩
 ·have j0 := (blk_cell hw'.1 2).trans rfl
  go_simp
  rfl
 clear hK K
 iterate 1 (with_reducible refine wpHeld_sure (fun K hK => ?_); go_simp; with_reducible refine hK _ ?_; clear hK K)
 refine wpHeld_take (fun K hK => ?_)
 rw [if_pos (by rfl)]
 apply Exists.intro
 refine ⟨fun w' hw' => ?_, hK _ ?_⟩
 ·have j0 := (blk_cell hw'.2.1 9).trans rfl
  go_simp
  rfl
 clear hK K
 refine wpHeld_take (fun K hK => ?_)
 rw [if_pos (by rfl)]
 apply Exists.intro
 refine ⟨fun w' hw' => ?_, hK _ ?_⟩
 ·have j0 := HCV.out w' hw'.2.2
  go_simp
  rfl
 clear hK K
 iterate 1 (with_reducible refine wpHeld_sure (fun K hK => ?_); go_simp; with_reducible refine hK _ ?_; clear hK K)
 refine wpHeld_take (fun K hK => ?_)
 rw [if_pos (by rfl)]
 apply Exists.intro
 refine ⟨fun w' hw' => ?_, hK _ ?_⟩
 ·have j0 := (blk_cell hw'.2.1 3).trans rfl
  go_simp
  rfl
 clear hK K
 with_reducible refine wpHeld_next (fun K hK => ?_)
 obtain ⟨w4, hrun, hown4, hgrow4⟩ := (M3.out.drew).update law9 Tryz.underlying82 (by have := HLN.out; unfold maxLen; omega) (key9 k) (elem38 ((n : Int) + 1) (by omega) (by omega))
 go_simp
 have F4 : As (Frame (fun k => k = lb ∨ k = mb) W w4) := ⟨F3m.out.drew.grown hgrow4 (fun k hk => by injection hk with hk; exact .inl (.inr hk.symm))⟩
 have hb4 : As (w4.heap[lb]? = some (.cells #[pv, .slice A n c, .map (some mb), .int .u64 ((last : Int) + 1), .int .u32 1, .int .i64 1, .int .i64 y, .int .i64 nt] 93 (0, 0))) := ⟨(hgrow4.block lb (blk_lt hb3.out) (fun h => by injection h with h; exact hlm h)).trans hb3.out⟩
 have hbox4 : As (w4.heap[b3]? = some (.cells #[.int .i64 2, .int .u64 ((last : Int) + 1), .int .u32 1, .int .u32 ((n : Int) + 1), .int .i64 0, .bool false, .int .i64 0, .int .i64 0, .int .u64 0, .slice ak 1 ck, .slice ad 1 cd] 41 (0, 0))) := ⟨(hgrow4.block b3 (blk_lt hbox3.out) (fun h => by injection h with h; have := HB3.out; omega)).trans hbox3.out⟩
 have M4 := As.mk hown4
 refine hK _ _ (fun h => absurd rfl h) ?_
 clear hK K hrun hown4 hgrow4 hb3 hbox3 F3m M3 K3
 refine wpHeld_nil ?_
 have hs4 := F4.out.low.size
 have hlb4 := blk_lt hb4.out
 have hbx4 := blk_lt hbox4.out
 have HCK : As (∀ w, Below w4.heap.size w4 w → Calls Tryz.prog 40 #[.slice ak 1 ck] w fun e W' => (∃ g k', e = .returned (.slice (some ⟨g, 0, none⟩) 1 k') ∧ w.heap.size ≤ g ∧ g < W'.heap.size ∧ Bytes W' (some ⟨g, 0, none⟩) [(k : Int)] ∧ 1 ≤ k') ∧ Below w.heap.size w W') := ⟨fun w hw => bclone_a (HAK.out w (F4.out.trans (Frame.of_below (own := fun k => k = lb ∨ k = mb) hw (Nat.le_refl _)) (fun k _ h => h))) (by simp) (by simp) ck⟩
 have HCD : As (∀ w, Below w4.heap.size w4 w → Calls Tryz.prog 40 #[.slice ad 1 cd] w fun e W' => (∃ g k', e = .returned (.slice (some ⟨g, 0, none⟩) 1 k') ∧ w.heap.size ≤ g ∧ g < W'.heap.size ∧ Bytes W' (some ⟨g, 0, none⟩) [(d : Int)] ∧ 1 ≤ k') ∧ Below w.heap.size w W') := ⟨fun w hw => bclone_a (HAD.out w (F4.out.trans (Frame.of_below (own := fun k => k = lb ∨ k = mb) hw (Nat.le_refl _)) (fun k _ h => h))) (by simp) (by simp) cd⟩
 have HCS : As (∀ w, Calls Tryz.prog 41 #[] w fun e W' => e = .returned (.agg #[.int .i64 1, .int .i64 0, .int .i64 0, .bool false, .int .i64 0, .bool false, .int .i64 0]) ∧ Below w.heap.size w W') := ⟨fun w => start_a w⟩
 clear HAK HAD HCV
 go_upto_region 11 with fail
 refine wp_region_plan_tree (fun w' => w'.heap[b3]? = some (.cells #[.int .i64 2, .int .u64 ((last : Int) + 1), .int .u32 1, .int .u32 ((n : Int) + 1), .int .i64 0, .bool false, .int .i64 0, .int .i64 0, .int .u64 0, .slice ak 1 ck, .slice ad 1 cd] 41 (0, 0))) (.cons 1 0 (.cons 0 1 (.cons 1 2 (.cons 0 3 (.cons 1 5 (.cons 0 6 (.two 4 10 (.two 7 10 (.two 8 10 (.cons 1 9 (.cons 2 10 (.cons 2 11 .nil))) (.cons 2 8 (.cons 1 9 (.cons 2 11 .nil)))) (.cons 2 7 (.cons 2 8 (.cons 1 9 (.cons 2 11 .nil))))) (.cons 2 4 (.cons 2 7 (.cons 2 8 (.cons 1 9 (.cons 2 11 .nil)))))))))))) (by kernel_rfl) (by kernel_rfl) (by kernel_rfl) (by kernel_rfl) (fun _ _ _ _ _ h => h) hbox4.out ?_
 simp only [PT.tag, List.getElem?_toArray, List.getElem?_cons_succ, List.getElem?_cons_zero]
 iterate 1 (with_reducible refine wpT_sure (fun K hK => ?_); go_simp; with_reducible refine hK _ ?_; clear hK K)
 refine wpT_take (fun K hK => ?_)
 rw [if_pos (by rfl)]
 apply Exists.intro
 refine ⟨fun w' hw' => ?_, hK _ ?_⟩
 ·have j0 := (blk_cell hw' 3).trans rfl
  go_simp
  rfl
 clear hK K
 iterate 1 (with_reducible refine wpT_sure (fun K hK => ?_); go_simp; with_reducible refine hK _ ?_; clear hK K)
 refine wpT_take (fun K hK => ?_)
 rw [if_pos (by rfl)]
 apply Exists.intro
 refine ⟨fun w' hw' => ?_, hK _ ?_⟩
 ·have j0 := (blk_cell hw' 9).trans rfl
  go_simp
  rfl
 clear hK K
 iterate 1 (with_reducible refine wpT_sure (fun K hK => ?_); go_simp; with_reducible refine hK _ ?_; clear hK K)
 refine wpT_take (fun K hK => ?_)
 rw [if_pos (by rfl)]
 apply Exists.intro
 refine ⟨fun w' hw' => ?_, hK _ ?_⟩
 ·have j0 := (blk_cell hw' 10).trans rfl
  go_simp
  rfl
 clear hK K
 have Bd : As (Below w4.heap.size w4 w4.drew) := ⟨(Below.refl _ w4).drew⟩
 have Xd : As (w4.drew.heap[b3]? = some (.cells #[.int .i64 2, .int .u64 ((last : Int) + 1), .int .u32 1, .int .u32 ((n : Int) + 1), .int .i64 0, .bool false, .int .i64 0, .int .i64 0, .int .u64 0, .slice ak 1 ck, .slice ad 1 cd] 41 (0, 0))) := ⟨hbox4.out⟩
 have hsd : w4.heap.size ≤ w4.drew.heap.size := Nat.le_refl _
 generalize w4.drew = wd at *
 refine wpT_two ?_ ?_
 ·with_reducible refine wpT_next (fun K hK => ?_)
  go_simp
  refine (HCK.out _ Bd.out).mono ?_
  rintro e w11 ⟨⟨gk, kk, rfl, g1, g2, g3, g4⟩, q1⟩
  have B11 : As (Below w4.heap.size w4 w11) := ⟨Bd.out.trans (q1.mono hsd)⟩
  have X11 := As.mk ((q1.block b3 (blk_lt Xd.out)).trans Xd.out)
  have hs11 := B11.out.size
  have GK11 := As.mk g3
  have LK11 := g2
  have OK : As (w4.heap.size ≤ gk) := ⟨by omega⟩
  refine hK _ _ X11.out ?_
  clear hK K q1 g1 g2 g3 g4
  refine wpT_two ?_ ?_
  ·with_reducible refine wpT_next (fun K hK => ?_)
   go_simp
   refine (HCD.out _ B11.out).mono ?_
   rintro e w12 ⟨⟨gd, kd, rfl, g1, g2, g3, g4⟩, q1⟩
   have B12 : As (Below w4.heap.size w4 w12) := ⟨B11.out.trans (q1.mono hs11)⟩
   have X12 := As.mk ((q1.block b3 (blk_lt X11.out)).trans X11.out)
   have hs12 := B12.out.size
   have GK12 := As.mk (GK11.out.keep (W' := w12) (fun q o ha hq => q1.block q hq) q1.size)
   have LK12 : gk < w12.heap.size := Nat.lt_of_lt_of_le LK11 q1.size
   have GD12 := As.mk g3
   have LD12 := g2
   have OD : As (w4.heap.size ≤ gd) := ⟨by omega⟩
   refine hK _ _ X12.out ?_
   clear hK K q1 g1 g2 g3 g4
   refine wpT_two ?_ ?_
   ·with_reducible refine wpT_next (fun K hK => ?_)
    go_simp
    refine (HCS.out _).mono ?_
    rintro e w13 ⟨rfl, q1⟩
    have B13 : As (Below w4.heap.size w4 w13) := ⟨B12.out.trans (q1.mono hs12)⟩
    have X13 := As.mk ((q1.block b3 (blk_lt X12.out)).trans X12.out)
    have hs13 := B13.out.size
    have GK13 := As.mk (GK12.out.keep (W' := w13) (fun q o ha hq => q1.block q hq) q1.size)
    have LK13 : gk < w13.heap.size := Nat.lt_of_lt_of_le LK12 q1.size
    have GD13 := As.mk (GD12.out.keep (W' := w13) (fun q o ha hq => q1.block q hq) q1.size)
    have LD13 : gd < w13.heap.size := Nat.lt_of_lt_of_le LD12 q1.size
    refine hK _ _ X13.out ?_
    clear hK K q1
    iterate 1 (with_reducible refine wpT_sure (fun K hK => ?_); go_simp; with_reducible refine hK _ ?_; clear hK K)
    with_reducible refine wpT_next (fun K hK => ?_)
    go_simp
    have q1 : Below w13.heap.size w13 (w13.alloc (.cells #[.int .u32 0, .slice none 0 0, .slice none 0 0, .int .i64 0, .int .i64 0, .int .i64 0, .bool false, .int .i64 0, .bool false, .int .i64 0] 118)) := (Below.refl _ _).alloc (Nat.le_refl _) _
    obtain ⟨b6, hb6⟩ : ∃ b6, b6 = w13.heap.size := ⟨_, rfl⟩
    have A14 : As ((w13.alloc (.cells #[.int .u32 0, .slice none 0 0, .slice none 0 0, .int .i64 0, .int .i64 0, .int .i64 0, .bool false, .int .i64 0, .bool false, .int .i64 0] 118)).heap[b6]? = some (.cells #[.int .u32 0, .slice none 0 0, .slice none 0 0, .int .i64 0, .int .i64 0, .int .i64 0, .bool false, .int .i64 0, .bool false, .int .i64 0] 118 (0, 0))) := ⟨by rw [hb6]; exact blk_new w13 _⟩
    have O6 : As (w4.heap.size ≤ b6) := ⟨by omega⟩
    have NK : As (gk ≠ b6) := ⟨by omega⟩
    have ND : As (gd ≠ b6) := ⟨by omega⟩
    rw [← hb6]
    clear hb6
    generalize w13.alloc (.cells #[.int .u32 0, .slice none 0 0, .slice none 0 0, .int .i64 0, .int .i64 0, .int .i64 0, .bool false, .int .i64 0, .bool false, .int .i64 0] 118) = w14 at *
    have B14 : As (Below w4.heap.size w4 w14) := ⟨B13.out.trans (q1.mono hs13)⟩
    have X14 := As.mk ((q1.block b3 (blk_lt X13.out)).trans X13.out)
    have hs14 := B14.out.size
    have GK14 := As.mk (GK13.out.keep (W' := w14) (fun q o ha hq => q1.block q hq) q1.size)
    have LK14 : gk < w14.heap.size := Nat.lt_of_lt_of_le LK13 q1.size
    have GD14 := As.mk (GD13.out.keep (W' := w14) (fun q o ha hq => q1.block q hq) q1.size)
    have LD14 : gd < w14.heap.size := Nat.lt_of_lt_of_le LD13 q1.size
    refine hK _ _ X14.out ?_
    clear hK K q1
    with_reducible refine wpT_next (fun K hK => ?_)
    rw [if_pos (by rfl)]
    refine wp_storeC 118 (.tmp 6) (.tmp 57) rfl b6 118 [.int .u32 ((n : Int) + 1), .slice (some ⟨gk, 0, none⟩) 1 kk, .slice (some ⟨gd, 0, none⟩) 1 kd, .int .i64 1, .int .i64 0, .int .i64 0, .bool false, .int .i64 0, .bool false, .int .i64 0] _ rfl rfl A14.out rfl size118 (orC_one _ _ _ _ _) ?_
    intro wf q1 q2 q3 q4
    have BF : As (Below w4.heap.size w4 wf) := ⟨B14.out.trans (q2 _ O6.out)⟩
    have AF := As.mk q1
    have GKF : As (Bytes wf (some ⟨gk, 0, none⟩) [(k : Int)]) := ⟨GK14.out.keep (fun q o ha hq => by injection ha with ha; injection ha with ha; subst ha; exact q4 gk NK.out) (by omega)⟩
    have GDF : As (Bytes wf (some ⟨gd, 0, none⟩) [(d : Int)]) := ⟨GD14.out.keep (fun q o ha hq => by injection ha with ha; injection ha with ha; subst ha; exact q4 gd ND.out) (by omega)⟩
    have XF : wf.heap[b3]? = _ := (q4 b3 (by have := O6.out; omega)).trans X14.out
    have hsF := BF.out.size
    have LKF : As (gk < wf.heap.size) := ⟨by omega⟩
    have LDF : As (gd < wf.heap.size) := ⟨by omega⟩
    refine hK _ _ XF ?_
    clear hK K q1 q2 q3 q4
    refine wpT_nil ?_
    have hbF : As (wf.heap[lb]? = some (.cells #[pv, .slice A n c, .map (some mb), .int .u64 ((last : Int) + 1), .int .u32 1, .int .i64 1, .int .i64 y, .int .i64 nt] 93 (0, 0))) := ⟨(BF.out.block lb hlb4).trans hb4.out⟩
    have FF : As (Frame (fun k => k = lb ∨ k = mb) W wf) := ⟨F4.out.trans (Frame.of_below (own := fun k => k = lb ∨ k = mb) BF.out (Nat.le_refl _)) (fun k _ h => h)⟩
    have MF := As.mk (ownsMap_keep (W' := wf) M4.out (BF.out.block mb M4.out.lt))
    obtain ⟨cs, r1, r2, r3, r4⟩ := HLED.out.ors
    have R1 := As.mk r1
    have R4 := As.mk r4
    have HV : As (∀ q, (Value.slice A n c).ownBlock = some q → OL q ∧ q < W.heap.size) := ⟨fun q hq => ⟨r3 q hq, own_lt r2 q hq⟩⟩
    have RF : As (wf.ownsRow 0 120 11 (.slice A n c) n cs.flatten) := ⟨by
     have h := own_keep (W' := wf) r2 (fun q hq hl => FF.out.block q hl (fun h => by
      have h1 := (HV.out q hq).1
      have h2 := HLED.out.s1
      rcases h with h | h
      ·exact h2.1 (h ▸ h1)
      ·exact h2.2.1 (h ▸ h1)))
     rwa [HLN.out] at h⟩
    have SZ : As (W.heap.size ≤ w4.heap.size ∧ w4.heap.size ≤ wf.heap.size ∧ lb < W.heap.size ∧ mb < W.heap.size ∧ lb ≠ mb) := ⟨⟨hs4, hsF, hlb, hmlt, hlm⟩⟩
    clear r1 r2 r3 r4 XF
    go_upto_region 12 with fail
    refine wp_region_plan_held 11 (fun w' => w'.heap[lb]? = some (.cells #[pv, .slice A n c, .map (some mb), .int .u64 ((last : Int) + 1), .int .u32 1, .int .i64 1, .int .i64 y, .int .i64 nt] 93 (0, 0)) ∧ w'.heap[b6]? = some (.cells ([.int .u32 ((n : Int) + 1), .slice (some ⟨gk, 0, none⟩) 1 kk, .slice (some ⟨gd, 0, none⟩) 1 kd, .int .i64 1, .int .i64 0, .int .i64 0, .bool false, .int .i64 0, .bool false, .int .i64 0] : List Value).toArray 118 (0, 0))) [(1,0),(1,1),(1,2),(1,3),(0,4),(0,5),(1,6),(2,7),(2,8),(1,9),(1,10),(2,11)] (by kernel_rfl) (by kernel_rfl) (by kernel_rfl) (by kernel_rfl) (fun _ _ _ _ _ h => h) ⟨hbF.out, AF.out⟩ ?_
    simp only [tagged, List.filterMap_cons, List.filterMap_nil, List.getElem?_toArray, List.getElem?_cons_succ, List.getElem?_cons_zero, Option.map_some]
    iterate 4 (with_reducible refine wpHeld_sure (fun K hK => ?_); go_simp; with_reducible refine hK _ ?_; clear hK K)
    refine wpHeld_take (fun K hK => ?_)
    rw [if_pos (by rfl)]
    apply Exists.intro
    refine ⟨fun w' hw' => ?_, hK _ ?_⟩
    ·have j0 := (blk_cell hw'.1 1).trans rfl
     go_simp
     rfl
    clear hK K
    refine wpHeld_take (fun K hK => ?_)
    rw [if_pos (by rfl)]
    refine ⟨.agg ([.int .u32 ((n : Int) + 1), .slice (some ⟨gk, 0, none⟩) 1 kk, .slice (some ⟨gd, 0, none⟩) 1 kd, .int .i64 1, .int .i64 0, .int .i64 0, .bool false, .int .i64 0, .bool false, .int .i64 0] : List Value).toArray, fun w' hw' => exec_load_mid _ _ _ 118 (.tmp 6) rfl b6 0 rfl [.int .u32 ((n : Int) + 1), .slice (some ⟨gk, 0, none⟩) 1 kk, .slice (some ⟨gd, 0, none⟩) 1 kd, .int .i64 1, .int .i64 0, .int .i64 0, .bool false, .int .i64 0, .bool false, .int .i64 0] _ (fun j v hv => by rw [Nat.zero_add, blk_cell hw'.2]; simpa using hv) Tryz.underlying118 rfl size118, hK _ ?_⟩
    clear hK K
    iterate 1 (with_reducible refine wpHeld_sure (fun K hK => ?_); go_simp; with_reducible refine hK _ ?_; clear hK K)
    with_reducible refine wpHeld_next (fun K hK => ?_)
    rw [if_pos (by rfl)]
    refine wp_build86 (.tmp 64) rfl [.int .u32 ((n : Int) + 1), .slice (some ⟨gk, 0, none⟩) 1 kk, .slice (some ⟨gd, 0, none⟩) 1 kd, .int .i64 1, .int .i64 0, .int .i64 0, .bool false, .int .i64 0, .bool false, .int .i64 0, .bool false] rfl rfl ?_
    obtain ⟨b13, hb13⟩ : ∃ b13, b13 = wf.heap.size := ⟨_, rfl⟩
    have hW13 : (wf.drew.alloc (.cells ([.int .u32 ((n : Int) + 1), .slice (some ⟨gk, 0, none⟩) 1 kk, .slice (some ⟨gd, 0, none⟩) 1 kd, .int .i64 1, .int .i64 0, .int .i64 0, .bool false, .int .i64 0, .bool false, .int .i64 0, .bool false] : List Value).toArray 120 (0, 0))).heap.size = b13 + 1 := by rw [hb13]; simp
    have B13 : As (Below wf.heap.size wf (wf.drew.alloc (.cells ([.int .u32 ((n : Int) + 1), .slice (some ⟨gk, 0, none⟩) 1 kk, .slice (some ⟨gd, 0, none⟩) 1 kd, .int .i64 1, .int .i64 0, .int .i64 0, .bool false, .int .i64 0, .bool false, .int .i64 0, .bool false] : List Value).toArray 120 (0, 0)))) := ⟨(Below.refl wf.heap.size wf).drew.alloc (Nat.le_refl _) _⟩
    have N13 : As ((wf.drew.alloc (.cells ([.int .u32 ((n : Int) + 1), .slice (some ⟨gk, 0, none⟩) 1 kk, .slice (some ⟨gd, 0, none⟩) 1 kd, .int .i64 1, .int .i64 0, .int .i64 0, .bool false, .int .i64 0, .bool false, .int .i64 0, .bool false] : List Value).toArray 120 (0, 0))).heap[b13]? = some (.cells ([.int .u32 ((n : Int) + 1), .slice (some ⟨gk, 0, none⟩) 1 kk, .slice (some ⟨gd, 0, none⟩) 1 kd, .int .i64 1, .int .i64 0, .int .i64 0, .bool false, .int .i64 0, .bool false, .int .i64 0, .bool false] : List Value).toArray 120 (0, 0))) := ⟨by rw [hb13]; exact blk_new wf.drew _⟩
    have hdr : wf.drew.heap.size = b13 := by rw [hb13]; rfl
    rw [hdr]
    generalize wf.drew.alloc (.cells ([.int .u32 ((n : Int) + 1), .slice (some ⟨gk, 0, none⟩) 1 kk, .slice (some ⟨gd, 0, none⟩) 1 kd, .int .i64 1, .int .i64 0, .int .i64 0, .bool false, .int .i64 0, .bool false, .int .i64 0, .bool false] : List Value).toArray 120 (0, 0)) = w13 at *
    have h13 : As (w13.heap[lb]? = some (.cells #[pv, .slice A n c, .map (some mb), .int .u64 ((last : Int) + 1), .int .u32 1, .int .i64 1, .int .i64 y, .int .i64 nt] 93 (0, 0)) ∧ w13.heap[b6]? = some (.cells ([.int .u32 ((n : Int) + 1), .slice (some ⟨gk, 0, none⟩) 1 kk, .slice (some ⟨gd, 0, none⟩) 1 kd, .int .i64 1, .int .i64 0, .int .i64 0, .bool false, .int .i64 0, .bool false, .int .i64 0] : List Value).toArray 118 (0, 0))) := ⟨(B13.out.block lb (blk_lt hbF.out)).trans hbF.out, (B13.out.block b6 (blk_lt AF.out)).trans AF.out⟩
    refine hK _ _ (fun _ => h13.out) ?_
    clear hK K hdr
    with_reducible refine wpHeld_next (fun K hK => ?_)
    obtain ⟨i0, hi0, hz0, hz1, hz2⟩ := info_parts info120
    have R13 := As.mk (own_keep (W' := w13) RF.out (fun q hq hlq => B13.out.block q hlq))
    refine step_append_lies w13 (by rfl) _ _ _ (by rfl) 0 120 i0 _ 11 120 Tryz.underlying86 hi0 hz0 hz1 hz2 (by rfl) (by omega) (.slice A n c) n cs.flatten (by rfl) R13.out ⟨b13, 0, none⟩ 1 1 [.int .u32 ((n : Int) + 1), .slice (some ⟨gk, 0, none⟩) 1 kk, .slice (some ⟨gd, 0, none⟩) 1 kd, .int .i64 1, .int .i64 0, .int .i64 0, .bool false, .int .i64 0, .bool false, .int .i64 0, .bool false] (by rfl) rfl (World.news_of_block N13.out) (fun v hv => by
     rcases List.mem_append.1 (show v ∈ ([.int .u32 ((n : Int) + 1), .slice (some ⟨gk, 0, none⟩) 1 kk, .slice (some ⟨gd, 0, none⟩) 1 kd, .int .i64 1, .int .i64 0, .int .i64 0, .bool false, .int .i64 0, .bool false, .int .i64 0] : List Value) ++ [.bool false] from hv) with hv | hv
     ·exact orC_one _ _ _ _ _ v hv
     ·rw [List.mem_singleton.1 hv]; rfl) (by omega) (by unfold maxLen; omega) (by omega) (Nat.zero_le _) (b13 + 1) hW13 ?_
    intro gg cap w14 hown14 hgrow14 hat14 hlt14
    have HG140 : As (Below 0 w13 w14) := ⟨(Below.refl 0 w13).grown hgrow14 (Nat.zero_le _) (fun _ _ => Nat.zero_le _)⟩
    have N14 : As (∀ q, q < b13 + 1 → (¬ OL q ∨ W.heap.size ≤ q ∨ ¬ (Value.slice A n c).ownBlock = some q) → w14.heap[q]? = w13.heap[q]?) := ⟨fun q hq ho => hgrow14.block q (by omega) (fun e => by
     have h := HV.out q e.symm
     rcases ho with ho | ho | ho
     ·exact ho h.1
     ·omega
     ·exact ho e.symm)⟩
    have HB13 := As.mk hb13
    have hlbF := blk_lt hbF.out
    have h14 : As (w14.heap[lb]? = some (.cells #[pv, .slice A n c, .map (some mb), .int .u64 ((last : Int) + 1), .int .u32 1, .int .i64 1, .int .i64 y, .int .i64 nt] 93 (0, 0)) ∧ w14.heap[b6]? = some (.cells ([.int .u32 ((n : Int) + 1), .slice (some ⟨gk, 0, none⟩) 1 kk, .slice (some ⟨gd, 0, none⟩) 1 kd, .int .i64 1, .int .i64 0, .int .i64 0, .bool false, .int .i64 0, .bool false, .int .i64 0] : List Value).toArray 118 (0, 0))) := ⟨(N14.out lb (by omega) (.inl HLED.out.s1.1)).trans h13.out.1, (N14.out b6 (by have := blk_lt AF.out; omega) (.inr (.inl (by have := O6.out; have := SZ.out; omega)))).trans h13.out.2⟩
    refine hK _ _ (fun _ => h14.out) ?_
    clear hK K
    have HO14 := As.mk hown14
    have HG14 := As.mk hgrow14.size
    have HAT14 := As.mk hat14
    have HLT14 := As.mk hlt14
    clear hown14 hgrow14 hat14 hlt14 hz0 hz1 hz2 hi0 i0 hb13
    iterate 2 (with_reducible refine wpHeld_sure (fun K hK => ?_); go_simp; with_reducible refine hK _ ?_; clear hK K)
    have c1 := (blk_cell h14.out.1 1).trans rfl
    have f1 := blk_frozen h14.out.1 1
    with_reducible refine wpHeld_next (fun K hK => ?_)
    go_simp
    refine hK _ _ (fun h => absurd rfl h) ?_
    clear hK K
    refine wpHeld_nil ?_
    have hbN : As ((w14.setCell ⟨lb, 1, none⟩ (.slice (some ⟨gg, 0, none⟩) (n + 1) cap)).heap[lb]? = _) := ⟨blk_put h14.out.1 1 (.slice (some ⟨gg, 0, none⟩) (n + 1) cap)⟩
    have hfN : As (∀ q, q ≠ lb → (w14.setCell ⟨lb, 1, none⟩ (.slice (some ⟨gg, 0, none⟩) (n + 1) cap)).heap[q]? = w14.heap[q]?) := ⟨fun q hq => Below.heap_setCell _ _ _ _ hq⟩
    have hsN : As ((w14.setCell ⟨lb, 1, none⟩ (.slice (some ⟨gg, 0, none⟩) (n + 1) cap)).heap.size = w14.heap.size) := ⟨by simp⟩
    have hBN : As (Below lb w14 (w14.setCell ⟨lb, 1, none⟩ (.slice (some ⟨gg, 0, none⟩) (n + 1) cap))) := ⟨(Below.refl _ _).setCell (p := ⟨lb, 1, none⟩) (Nat.le_refl _) _⟩
    generalize w14.setCell ⟨lb, 1, none⟩ (.slice (some ⟨gg, 0, none⟩) (n + 1) cap) = wn at *
    clear c1 f1
    go_wp2_with fail
    go_ret
    refine ⟨rfl, ledNext_of HLED.out HKEYS.out hk256 HLN.out R1.out R4.out FF.out MF.out HISM.out B13.out HB13.out hbN.out (hBN.out) hsN.out hfN.out HG14.out (by have := hW13; omega) HO14.out HAT14.out HLT14.out GKF.out GDF.out LKF.out LDF.out (by have := OK.out; have := SZ.out; omega) (by have := OD.out; have := SZ.out; omega) ⟨by have := SZ.out; omega, SZ.out.2.2⟩ (fun q hq ho => N14.out q hq ho) HV.out HG140.out⟩
   ·with_reducible refine wpT_next (fun K hK => ?_)
    go_simp
    have q1 : Below w12.heap.size w12 (w12.alloc (.cells #[.int .u32 0, .slice none 0 0, .slice none 0 0, .int .i64 0, .int .i64 0, .int .i64 0, .bool false, .int .i64 0, .bool false, .int .i64 0] 118)) := (Below.refl _ _).alloc (Nat.le_refl _) _
    obtain ⟨b6, hb6⟩ : ∃ b6, b6 = w12.heap.size := ⟨_, rfl⟩
    have A16 : As ((w12.alloc (.cells #[.int .u32 0, .slice none 0 0, .slice none 0 0, .int .i64 0, .int .i64 0, .int .i64 0, .bool false, .int .i64 0, .bool false, .int .i64 0] 118)).heap[b6]? = some (.cells #[.int .u32 0, .slice none 0 0, .slice none 0 0, .int .i64 0, .int .i64 0, .int .i64 0, .bool false, .int .i64 0, .bool false, .int .i64 0] 118 (0, 0))) := ⟨by rw [hb6]; exact blk_new w12 _⟩
    have O6 : As (w4.heap.size ≤ b6) := ⟨by omega⟩
    have NK : As (gk ≠ b6) := ⟨by omega⟩
    have ND : As (gd ≠ b6) := ⟨by omega⟩
    rw [← hb6]
    clear hb6
    generalize w12.alloc (.cells #[.int .u32 0, .slice none 0 0, .slice none 0 0, .int .i64 0, .int .i64 0, .int .i64 0, .bool false, .int .i64 0, .bool false, .int .i64 0] 118) = w16 at *
    have B16 : As (Below w4.heap.size w4 w16) := ⟨B12.out.trans (q1.mono hs12)⟩
    have X16 := As.mk ((q1.block b3 (blk_lt X12.out)).trans X12.out)
    have hs16 := B16.out.size
    have GK16 := As.mk (GK12.out.keep (W' := w16) (fun q o ha hq => q1.block q hq) q1.size)
    have LK16 : gk < w16.heap.size := Nat.lt_of_lt_of_le LK12 q1.size
    have GD16 := As.mk (GD12.out.keep (W' := w16) (fun q o ha hq => q1.block q hq) q1.size)
    have LD16 : gd < w16.heap.size := Nat.lt_of_lt_of_le LD12 q1.size
    refine hK _ _ X16.out ?_
    clear hK K q1
    with_reducible refine wpT_next (fun K hK => ?_)
    go_simp
    refine (HCS.out _).mono ?_
    rintro e w17 ⟨rfl, q1⟩
    have B17 : As (Below w4.heap.size w4 w17) := ⟨B16.out.trans (q1.mono hs16)⟩
    have X17 := As.mk ((q1.block b3 (blk_lt X16.out)).trans X16.out)
    have hs17 := B17.out.size
    have GK17 := As.mk (GK16.out.keep (W' := w17) (fun q o ha hq => q1.block q hq) q1.size)
    have LK17 : gk < w17.heap.size := Nat.lt_of_lt_of_le LK16 q1.size
    have GD17 := As.mk (GD16.out.keep (W' := w17) (fun q o ha hq => q1.block q hq) q1.size)
    have LD17 : gd < w17.heap.size := Nat.lt_of_lt_of_le LD16 q1.size
    have A17 := As.mk ((q1.block b6 (blk_lt A16.out)).trans A16.out)
    refine hK _ _ X17.out ?_
    clear hK K q1
    iterate 1 (with_reducible refine wpT_sure (fun K hK => ?_); go_simp; with_reducible refine hK _ ?_; clear hK K)
    with_reducible refine wpT_next (fun K hK => ?_)
    rw [if_pos (by rfl)]
    refine wp_storeC 118 (.tmp 6) (.tmp 57) rfl b6 118 [.int .u32 ((n : Int) + 1), .slice (some ⟨gk, 0, none⟩) 1 kk, .slice (some ⟨gd, 0, none⟩) 1 kd, .int .i64 1, .int .i64 0, .int .i64 0, .bool false, .int .i64 0, .bool false, .int .i64 0] _ rfl rfl A17.out rfl size118 (orC_one _ _ _ _ _) ?_
    intro wf q1 q2 q3 q4
    have BF : As (Below w4.heap.size w4 wf) := ⟨B17.out.trans (q2 _ O6.out)⟩
    have AF := As.mk q1
    have GKF : As (Bytes wf (some ⟨gk, 0, none⟩) [(k : Int)]) := ⟨GK17.out.keep (fun q o ha hq => by injection ha with ha; injection ha with ha; subst ha; exact q4 gk NK.out) (by omega)⟩
    have GDF : As (Bytes wf (some ⟨gd, 0, none⟩) [(d : Int)]) := ⟨GD17.out.keep (fun q o ha hq => by injection ha with ha; injection ha with ha; subst ha; exact q4 gd ND.out) (by omega)⟩
    have XF : wf.heap[b3]? = _ := (q4 b3 (by have := O6.out; omega)).trans X17.out
    have hsF := BF.out.size
    have LKF : As (gk < wf.heap.size) := ⟨by omega⟩
    have LDF : As (gd < wf.heap.size) := ⟨by omega⟩
    refine hK _ _ XF ?_
    clear hK K q1 q2 q3 q4
    refine wpT_nil ?_
    have hbF : As (wf.heap[lb]? = some (.cells #[pv, .slice A n c, .map (some mb), .int .u64 ((last : Int) + 1), .int .u32 1, .int .i64 1, .int .i64 y, .int .i64 nt] 93 (0, 0))) := ⟨(BF.out.block lb hlb4).trans hb4.out⟩
    have FF : As (Frame (fun k => k = lb ∨ k = mb) W wf) := ⟨F4.out.trans (Frame.of_below (own := fun k => k = lb ∨ k = mb) BF.out (Nat.le_refl _)) (fun k _ h => h)⟩
    have MF := As.mk (ownsMap_keep (W' := wf) M4.out (BF.out.block mb M4.out.lt))
    obtain ⟨cs, r1, r2, r3, r4⟩ := HLED.out.ors
    have R1 := As.mk r1
    have R4 := As.mk r4
    have HV : As (∀ q, (Value.slice A n c).ownBlock = some q → OL q ∧ q < W.heap.size) := ⟨fun q hq => ⟨r3 q hq, own_lt r2 q hq⟩⟩
    have RF : As (wf.ownsRow 0 120 11 (.slice A n c) n cs.flatten) := ⟨by
     have h := own_keep (W' := wf) r2 (fun q hq hl => FF.out.block q hl (fun h => by
      have h1 := (HV.out q hq).1
      have h2 := HLED.out.s1
      rcases h with h | h
      ·exact h2.1 (h ▸ h1)
      ·exact h2.2.1 (h ▸ h1)))
     rwa [HLN.out] at h⟩
    have SZ : As (W.heap.size ≤ w4.heap.size ∧ w4.heap.size ≤ wf.heap.size ∧ lb < W.heap.size ∧ mb < W.heap.size ∧ lb ≠ mb) := ⟨⟨hs4, hsF, hlb, hmlt, hlm⟩⟩
    clear r1 r2 r3 r4 XF
    go_upto_region 12 with fail
    refine wp_region_plan_held 11 (fun w' => w'.heap[lb]? = some (.cells #[pv, .slice A n c, .map (some mb), .int .u64 ((last : Int) + 1), .int .u32 1, .int .i64 1, .int .i64 y, .int .i64 nt] 93 (0, 0)) ∧ w'.heap[b6]? = some (.cells ([.int .u32 ((n : Int) + 1), .slice (some ⟨gk, 0, none⟩) 1 kk, .slice (some ⟨gd, 0, none⟩) 1 kd, .int .i64 1, .int .i64 0, .int .i64 0, .bool false, .int .i64 0, .bool false, .int .i64 0] : List Value).toArray 118 (0, 0))) [(1,0),(1,1),(1,2),(1,3),(0,4),(0,5),(1,6),(2,7),(2,8),(1,9),(1,10),(2,11)] (by kernel_rfl) (by kernel_rfl) (by kernel_rfl) (by kernel_rfl) (fun _ _ _ _ _ h => h) ⟨hbF.out, AF.out⟩ ?_
    simp only [tagged, List.filterMap_cons, List.filterMap_nil, List.getElem?_toArray, List.getElem?_cons_succ, List.getElem?_cons_zero, Option.map_some]
    iterate 4 (with_reducible refine wpHeld_sure (fun K hK => ?_); go_simp; with_reducible refine hK _ ?_; clear hK K)
    refine wpHeld_take (fun K hK => ?_)
    rw [if_pos (by rfl)]
    apply Exists.intro
    refine ⟨fun w' hw' => ?_, hK _ ?_⟩
    ·have j0 := (blk_cell hw'.1 1).trans rfl
     go_simp
     rfl
    clear hK K
    refine wpHeld_take (fun K hK => ?_)
    rw [if_pos (by rfl)]
    refine ⟨.agg ([.int .u32 ((n : Int) + 1), .slice (some ⟨gk, 0, none⟩) 1 kk, .slice (some ⟨gd, 0, none⟩) 1 kd, .int .i64 1, .int .i64 0, .int .i64 0, .bool false, .int .i64 0, .bool false, .int .i64 0] : List Value).toArray, fun w' hw' => exec_load_mid _ _ _ 118 (.tmp 6) rfl b6 0 rfl [.int .u32 ((n : Int) + 1), .slice (some ⟨gk, 0, none⟩) 1 kk, .slice (some ⟨gd, 0, none⟩) 1 kd, .int .i64 1, .int .i64 0, .int .i64 0, .bool false, .int .i64 0, .bool false, .int .i64 0] _ (fun j v hv => by rw [Nat.zero_add, blk_cell hw'.2]; simpa using hv) Tryz.underlying118 rfl size118, hK _ ?_⟩
    clear hK K
    iterate 1 (with_reducible refine wpHeld_sure (fun K hK => ?_); go_simp; with_reducible refine hK _ ?_; clear hK K)
    with_reducible refine wpHeld_next (fun K hK => ?_)
    rw [if_pos (by rfl)]
    refine wp_build86 (.tmp 64) rfl [.int .u32 ((n : Int) + 1), .slice (some ⟨gk, 0, none⟩) 1 kk, .slice (some ⟨gd, 0, none⟩) 1 kd, .int .i64 1, .int .i64 0, .int .i64 0, .bool false, .int .i64 0, .bool false, .int .i64 0, .bool false] rfl rfl ?_
    obtain ⟨b13, hb13⟩ : ∃ b13, b13 = wf.heap.size := ⟨_, rfl⟩
    have hW13 : (wf.drew.alloc (.cells ([.int .u32 ((n : Int) + 1), .slice (some ⟨gk, 0, none⟩) 1 kk, .slice (some ⟨gd, 0, none⟩) 1 kd, .int .i64 1, .int .i64 0, .int .i64 0, .bool false, .int .i64 0, .bool false, .int .i64 0, .bool false] : List Value).toArray 120 (0, 0))).heap.size = b13 + 1 := by rw [hb13]; simp
    have B13 : As (Below wf.heap.size wf (wf.drew.alloc (.cells ([.int .u32 ((n : Int) + 1), .slice (some ⟨gk, 0, none⟩) 1 kk, .slice (some ⟨gd, 0, none⟩) 1 kd, .int .i64 1, .int .i64 0, .int .i64 0, .bool false, .int .i64 0, .bool false, .int .i64 0, .bool false] : List Value).toArray 120 (0, 0)))) := ⟨(Below.refl wf.heap.size wf).drew.alloc (Nat.le_refl _) _⟩
    have N13 : As ((wf.drew.alloc (.cells ([.int .u32 ((n : Int) + 1), .slice (some ⟨gk, 0, none⟩) 1 kk, .slice (some ⟨gd, 0, none⟩) 1 kd, .int .i64 1, .int .i64 0, .int .i64 0, .bool false, .int .i64 0, .bool false, .int .i64 0, .bool false] : List Value).toArray 120 (0, 0))).heap[b13]? = some (.cells ([.int .u32 ((n : Int) + 1), .slice (some ⟨gk, 0, none⟩) 1 kk, .slice (some ⟨gd, 0, none⟩) 1 kd, .int .i64 1, .int .i64 0, .int .i64 0, .bool false, .int .i64 0, .bool false, .int .i64 0, .bool false] : List Value).toArray 120 (0, 0))) := ⟨by rw [hb13]; exact blk_new wf.drew _⟩
    have hdr : wf.drew.heap.size = b13 := by rw [hb13]; rfl
    rw [hdr]
    generalize wf.drew.alloc (.cells ([.int .u32 ((n : Int) + 1), .slice (some ⟨gk, 0, none⟩) 1 kk, .slice (some ⟨gd, 0, none⟩) 1 kd, .int .i64 1, .int .i64 0, .int .i64 0, .bool false, .int .i64 0, .bool false, .int .i64 0, .bool false] : List Value).toArray 120 (0, 0)) = w13 at *
    have h13 : As (w13.heap[lb]? = some (.cells #[pv, .slice A n c, .map (some mb), .int .u64 ((last : Int) + 1), .int .u32 1, .int .i64 1, .int .i64 y, .int .i64 nt] 93 (0, 0)) ∧ w13.heap[b6]? = some (.cells ([.int .u32 ((n : Int) + 1), .slice (some ⟨gk, 0, none⟩) 1 kk, .slice (some ⟨gd, 0, none⟩) 1 kd, .int .i64 1, .int .i64 0, .int .i64 0, .bool false, .int .i64 0, .bool false, .int .i64 0] : List Value).toArray 118 (0, 0))) := ⟨(B13.out.block lb (blk_lt hbF.out)).trans hbF.out, (B13.out.block b6 (blk_lt AF.out)).trans AF.out⟩
    refine hK _ _ (fun _ => h13.out) ?_
    clear hK K hdr
    with_reducible refine wpHeld_next (fun K hK => ?_)
    obtain ⟨i0, hi0, hz0, hz1, hz2⟩ := info_parts info120
    have R13 := As.mk (own_keep (W' := w13) RF.out (fun q hq hlq => B13.out.block q hlq))
    refine step_append_lies w13 (by rfl) _ _ _ (by rfl) 0 120 i0 _ 11 120 Tryz.underlying86 hi0 hz0 hz1 hz2 (by rfl) (by omega) (.slice A n c) n cs.flatten (by rfl) R13.out ⟨b13, 0, none⟩ 1 1 [.int .u32 ((n : Int) + 1), .slice (some ⟨gk, 0, none⟩) 1 kk, .slice (some ⟨gd, 0, none⟩) 1 kd, .int .i64 1, .int .i64 0, .int .i64 0, .bool false, .int .i64 0, .bool false, .int .i64 0, .bool false] (by rfl) rfl (World.news_of_block N13.out) (fun v hv => by
     rcases List.mem_append.1 (show v ∈ ([.int .u32 ((n : Int) + 1), .slice (some ⟨gk, 0, none⟩) 1 kk, .slice (some ⟨gd, 0, none⟩) 1 kd, .int .i64 1, .int .i64 0, .int .i64 0, .bool false, .int .i64 0, .bool false, .int .i64 0] : List Value) ++ [.bool false] from hv) with hv | hv
     ·exact orC_one _ _ _ _ _ v hv
     ·rw [List.mem_singleton.1 hv]; rfl) (by omega) (by unfold maxLen; omega) (by omega) (Nat.zero_le _) (b13 + 1) hW13 ?_
    intro gg cap w14 hown14 hgrow14 hat14 hlt14
    have HG140 : As (Below 0 w13 w14) := ⟨(Below.refl 0 w13).grown hgrow14 (Nat.zero_le _) (fun _ _ => Nat.zero_le _)⟩
    have N14 : As (∀ q, q < b13 + 1 → (¬ OL q ∨ W.heap.size ≤ q ∨ ¬ (Value.slice A n c).ownBlock = some q) → w14.heap[q]? = w13.heap[q]?) := ⟨fun q hq ho => hgrow14.block q (by omega) (fun e => by
     have h := HV.out q e.symm
     rcases ho with ho | ho | ho
     ·exact ho h.1
     ·omega
     ·exact ho e.symm)⟩
    have HB13 := As.mk hb13
    have hlbF := blk_lt hbF.out
    have h14 : As (w14.heap[lb]? = some (.cells #[pv, .slice A n c, .map (some mb), .int .u64 ((last : Int) + 1), .int .u32 1, .int .i64 1, .int .i64 y, .int .i64 nt] 93 (0, 0)) ∧ w14.heap[b6]? = some (.cells ([.int .u32 ((n : Int) + 1), .slice (some ⟨gk, 0, none⟩) 1 kk, .slice (some ⟨gd, 0, none⟩) 1 kd, .int .i64 1, .int .i64 0, .int .i64 0, .bool false, .int .i64 0, .bool false, .int .i64 0] : List Value).toArray 118 (0, 0))) := ⟨(N14.out lb (by omega) (.inl HLED.out.s1.1)).trans h13.out.1, (N14.out b6 (by have := blk_lt AF.out; omega) (.inr (.inl (by have := O6.out; have := SZ.out; omega)))).trans h13.out.2⟩
    refine hK _ _ (fun _ => h14.out) ?_
    clear hK K
    have HO14 := As.mk hown14
    have HG14 := As.mk hgrow14.size
    have HAT14 := As.mk hat14
    have HLT14 := As.mk hlt14
    clear hown14 hgrow14 hat14 hlt14 hz0 hz1 hz2 hi0 i0 hb13
    iterate 2 (with_reducible refine wpHeld_sure (fun K hK => ?_); go_simp; with_reducible refine hK _ ?_; clear hK K)
    have c1 := (blk_cell h14.out.1 1).trans rfl
    have f1 := blk_frozen h14.out.1 1
    with_reducible refine wpHeld_next (fun K hK => ?_)
    go_simp
    refine hK _ _ (fun h => absurd rfl h) ?_
    clear hK K
    refine wpHeld_nil ?_
    have hbN : As ((w14.setCell ⟨lb, 1, none⟩ (.slice (some ⟨gg, 0, none⟩) (n + 1) cap)).heap[lb]? = _) := ⟨blk_put h14.out.1 1 (.slice (some ⟨gg, 0, none⟩) (n + 1) cap)⟩
    have hfN : As (∀ q, q ≠ lb → (w14.setCell ⟨lb, 1, none⟩ (.slice (some ⟨gg, 0, none⟩) (n + 1) cap)).heap[q]? = w14.heap[q]?) := ⟨fun q hq => Below.heap_setCell _ _ _ _ hq⟩
    have hsN : As ((w14.setCell ⟨lb, 1, none⟩ (.slice (some ⟨gg, 0, none⟩) (n + 1) cap)).heap.size = w14.heap.size) := ⟨by simp⟩
    have hBN : As (Below lb w14 (w14.setCell ⟨lb, 1, none⟩ (.slice (some ⟨gg, 0, none⟩) (n + 1) cap))) := ⟨(Below.refl _ _).setCell (p := ⟨lb, 1, none⟩) (Nat.le_refl _) _⟩
    generalize w14.setCell ⟨lb, 1, none⟩ (.slice (some ⟨gg, 0, none⟩) (n + 1) cap) = wn at *
    clear c1 f1
    go_wp2_with fail
    go_ret
    refine ⟨rfl, ledNext_of HLED.out HKEYS.out hk256 HLN.out R1.out R4.out FF.out MF.out HISM.out B13.out HB13.out hbN.out (hBN.out) hsN.out hfN.out HG14.out (by have := hW13; omega) HO14.out HAT14.out HLT14.out GKF.out GDF.out LKF.out LDF.out (by have := OK.out; have := SZ.out; omega) (by have := OD.out; have := SZ.out; omega) ⟨by have := SZ.out; omega, SZ.out.2.2⟩ (fun q hq ho => N14.out q hq ho) HV.out HG140.out⟩
  ·with_reducible refine wpT_next (fun K hK => ?_)
   go_simp
   have q1 : Below w11.heap.size w11 (w11.alloc (.cells #[.int .u32 0, .slice none 0 0, .slice none 0 0, .int .i64 0, .int .i64 0, .int .i64 0, .bool false, .int .i64 0, .bool false, .int .i64 0] 118)) := (Below.refl _ _).alloc (Nat.le_refl _) _
   obtain ⟨b6, hb6⟩ : ∃ b6, b6 = w11.heap.size := ⟨_, rfl⟩
   have A19 : As ((w11.alloc (.cells #[.int .u32 0, .slice none 0 0, .slice none 0 0, .int .i64 0, .int .i64 0, .int .i64 0, .bool false, .int .i64 0, .bool false, .int .i64 0] 118)).heap[b6]? = some (.cells #[.int .u32 0, .slice none 0 0, .slice none 0 0, .int .i64 0, .int .i64 0, .int .i64 0, .bool false, .int .i64 0, .bool false, .int .i64 0] 118 (0, 0))) := ⟨by rw [hb6]; exact blk_new w11 _⟩
   have O6 : As (w4.heap.size ≤ b6) := ⟨by omega⟩
   have NK : As (gk ≠ b6) := ⟨by omega⟩
   rw [← hb6]
   clear hb6
   generalize w11.alloc (.cells #[.int .u32 0, .slice none 0 0, .slice none 0 0, .int .i64 0, .int .i64 0, .int .i64 0, .bool false, .int .i64 0, .bool false, .int .i64 0] 118) = w19 at *
   have B19 : As (Below w4.heap.size w4 w19) := ⟨B11.out.trans (q1.mono hs11)⟩
   have X19 := As.mk ((q1.block b3 (blk_lt X11.out)).trans X11.out)
   have hs19 := B19.out.size
   have GK19 := As.mk (GK11.out.keep (W' := w19) (fun q o ha hq => q1.block q hq) q1.size)
   have LK19 : gk < w19.heap.size := Nat.lt_of_lt_of_le LK11 q1.size
   refine hK _ _ X19.out ?_
   clear hK K q1
   with_reducible refine wpT_next (fun K hK => ?_)
   go_simp
   refine (HCD.out _ B19.out).mono ?_
   rintro e w20 ⟨⟨gd, kd, rfl, g1, g2, g3, g4⟩, q1⟩
   have B20 : As (Below w4.heap.size w4 w20) := ⟨B19.out.trans (q1.mono hs19)⟩
   have X20 := As.mk ((q1.block b3 (blk_lt X19.out)).trans X19.out)
   have hs20 := B20.out.size
   have GK20 := As.mk (GK19.out.keep (W' := w20) (fun q o ha hq => q1.block q hq) q1.size)
   have LK20 : gk < w20.heap.size := Nat.lt_of_lt_of_le LK19 q1.size
   have A20 := As.mk ((q1.block b6 (blk_lt A19.out)).trans A19.out)
   have GD20 := As.mk g3
   have LD20 := g2
   have OD : As (w4.heap.size ≤ gd) := ⟨by omega⟩
   have ND : As (gd ≠ b6) := ⟨by have := blk_lt A19.out; omega⟩
   refine hK _ _ X20.out ?_
   clear hK K q1 g1 g2 g3 g4
   with_reducible refine wpT_next (fun K hK => ?_)
   go_simp
   refine (HCS.out _).mono ?_
   rintro e w21 ⟨rfl, q1⟩
   have B21 : As (Below w4.heap.size w4 w21) := ⟨B20.out.trans (q1.mono hs20)⟩
   have X21 := As.mk ((q1.block b3 (blk_lt X20.out)).trans X20.out)
   have hs21 := B21.out.size
   have GK21 := As.mk (GK20.out.keep (W' := w21) (fun q o ha hq => q1.block q hq) q1.size)
   have LK21 : gk < w21.heap.size := Nat.lt_of_lt_of_le LK20 q1.size
   have GD21 := As.mk (GD20.out.keep (W' := w21) (fun q o ha hq => q1.block q hq) q1.size)
   have LD21 : gd < w21.heap.size := Nat.lt_of_lt_of_le LD20 q1.size
   have A21 := As.mk ((q1.block b6 (blk_lt A20.out)).trans A20.out)
   refine hK _ _ X21.out ?_
   clear hK K q1
   iterate 1 (with_reducible refine wpT_sure (fun K hK => ?_); go_simp; with_reducible refine hK _ ?_; clear hK K)
   with_reducible refine wpT_next (fun K hK => ?_)
   rw [if_pos (by rfl)]
   refine wp_storeC 118 (.tmp 6) (.tmp 57) rfl b6 118 [.int .u32 ((n : Int) + 1), .slice (some ⟨gk, 0, none⟩) 1 kk, .slice (some ⟨gd, 0, none⟩) 1 kd, .int .i64 1, .int .i64 0, .int .i64 0, .bool false, .int .i64 0, .bool false, .int .i64 0] _ rfl rfl A21.out rfl size118 (orC_one _ _ _ _ _) ?_
   intro wf q1 q2 q3 q4
   have BF : As (Below w4.heap.size w4 wf) := ⟨B21.out.trans (q2 _ O6.out)⟩
   have AF := As.mk q1
   have GKF : As (Bytes wf (some ⟨gk, 0, none⟩) [(k : Int)]) := ⟨GK21.out.keep (fun q o ha hq => by injection ha with ha; injection ha with ha; subst ha; exact q4 gk NK.out) (by omega)⟩
   have GDF : As (Bytes wf (some ⟨gd, 0, none⟩) [(d : Int)]) := ⟨GD21.out.keep (fun q o ha hq => by injection ha with ha; injection ha with ha; subst ha; exact q4 gd ND.out) (by omega)⟩
   have XF : wf.heap[b3]? = _ := (q4 b3 (by have := O6.out; omega)).trans X21.out
   have hsF := BF.out.size
   have LKF : As (gk < wf.heap.size) := ⟨by omega⟩
   have LDF : As (gd < wf.heap.size) := ⟨by omega⟩
   refine hK _ _ XF ?_
   clear hK K q1 q2 q3 q4
   refine wpT_nil ?_
   have hbF : As (wf.heap[lb]? = some (.cells #[pv, .slice A n c, .map (some mb), .int .u64 ((last : Int) + 1), .int .u32 1, .int .i64 1, .int .i64 y, .int .i64 nt] 93 (0, 0))) := ⟨(BF.out.block lb hlb4).trans hb4.out⟩
   have FF : As (Frame (fun k => k = lb ∨ k = mb) W wf) := ⟨F4.out.trans (Frame.of_below (own := fun k => k = lb ∨ k = mb) BF.out (Nat.le_refl _)) (fun k _ h => h)⟩
   have MF := As.mk (ownsMap_keep (W' := wf) M4.out (BF.out.block mb M4.out.lt))
   obtain ⟨cs, r1, r2, r3, r4⟩ := HLED.out.ors
   have R1 := As.mk r1
   have R4 := As.mk r4
   have HV : As (∀ q, (Value.slice A n c).ownBlock = some q → OL q ∧ q < W.heap.size) := ⟨fun q hq => ⟨r3 q hq, own_lt r2 q hq⟩⟩
   have RF : As (wf.ownsRow 0 120 11 (.slice A n c) n cs.flatten) := ⟨by
    have h := own_keep (W' := wf) r2 (fun q hq hl => FF.out.block q hl (fun h => by
     have h1 := (HV.out q hq).1
     have h2 := HLED.out.s1
     rcases h with h | h
     ·exact h2.1 (h ▸ h1)
     ·exact h2.2.1 (h ▸ h1)))
    rwa [HLN.out] at h⟩
   have SZ : As (W.heap.size ≤ w4.heap.size ∧ w4.heap.size ≤ wf.heap.size ∧ lb < W.heap.size ∧ mb < W.heap.size ∧ lb ≠ mb) := ⟨⟨hs4, hsF, hlb, hmlt, hlm⟩⟩
   clear r1 r2 r3 r4 XF
   go_upto_region 12 with fail
   refine wp_region_plan_held 11 (fun w' => w'.heap[lb]? = some (.cells #[pv, .slice A n c, .map (some mb), .int .u64 ((last : Int) + 1), .int .u32 1, .int .i64 1, .int .i64 y, .int .i64 nt] 93 (0, 0)) ∧ w'.heap[b6]? = some (.cells ([.int .u32 ((n : Int) + 1), .slice (some ⟨gk, 0, none⟩) 1 kk, .slice (some ⟨gd, 0, none⟩) 1 kd, .int .i64 1, .int .i64 0, .int .i64 0, .bool false, .int .i64 0, .bool false, .int .i64 0] : List Value).toArray 118 (0, 0))) [(1,0),(1,1),(1,2),(1,3),(0,4),(0,5),(1,6),(2,7),(2,8),(1,9),(1,10),(2,11)] (by kernel_rfl) (by kernel_rfl) (by kernel_rfl) (by kernel_rfl) (fun _ _ _ _ _ h => h) ⟨hbF.out, AF.out⟩ ?_
   simp only [tagged, List.filterMap_cons, List.filterMap_nil, List.getElem?_toArray, List.getElem?_cons_succ, List.getElem?_cons_zero, Option.map_some]
   iterate 4 (with_reducible refine wpHeld_sure (fun K hK => ?_); go_simp; with_reducible refine hK _ ?_; clear hK K)
   refine wpHeld_take (fun K hK => ?_)
   rw [if_pos (by rfl)]
   apply Exists.intro
   refine ⟨fun w' hw' => ?_, hK _ ?_⟩
   ·have j0 := (blk_cell hw'.1 1).trans rfl
    go_simp
    rfl
   clear hK K
   refine wpHeld_take (fun K hK => ?_)
   rw [if_pos (by rfl)]
   refine ⟨.agg ([.int .u32 ((n : Int) + 1), .slice (some ⟨gk, 0, none⟩) 1 kk, .slice (some ⟨gd, 0, none⟩) 1 kd, .int .i64 1, .int .i64 0, .int .i64 0, .bool false, .int .i64 0, .bool false, .int .i64 0] : List Value).toArray, fun w' hw' => exec_load_mid _ _ _ 118 (.tmp 6) rfl b6 0 rfl [.int .u32 ((n : Int) + 1), .slice (some ⟨gk, 0, none⟩) 1 kk, .slice (some ⟨gd, 0, none⟩) 1 kd, .int .i64 1, .int .i64 0, .int .i64 0, .bool false, .int .i64 0, .bool false, .int .i64 0] _ (fun j v hv => by rw [Nat.zero_add, blk_cell hw'.2]; simpa using hv) Tryz.underlying118 rfl size118, hK _ ?_⟩
   clear hK K
   iterate 1 (with_reducible refine wpHeld_sure (fun K hK => ?_); go_simp; with_reducible refine hK _ ?_; clear hK K)
   with_reducible refine wpHeld_next (fun K hK => ?_)
   rw [if_pos (by rfl)]
   refine wp_build86 (.tmp 64) rfl [.int .u32 ((n : Int) + 1), .slice (some ⟨gk, 0, none⟩) 1 kk, .slice (some ⟨gd, 0, none⟩) 1 kd, .int .i64 1, .int .i64 0, .int .i64 0, .bool false, .int .i64 0, .bool false, .int .i64 0, .bool false] rfl rfl ?_
   obtain ⟨b13, hb13⟩ : ∃ b13, b13 = wf.heap.size := ⟨_, rfl⟩
   have hW13 : (wf.drew.alloc (.cells ([.int .u32 ((n : Int) + 1), .slice (some ⟨gk, 0, none⟩) 1 kk, .slice (some ⟨gd, 0, none⟩) 1 kd, .int .i64 1, .int .i64 0, .int .i64 0, .bool false, .int .i64 0, .bool false, .int .i64 0, .bool false] : List Value).toArray 120 (0, 0))).heap.size = b13 + 1 := by rw [hb13]; simp
   have B13 : As (Below wf.heap.size wf (wf.drew.alloc (.cells ([.int .u32 ((n : Int) + 1), .slice (some ⟨gk, 0, none⟩) 1 kk, .slice (some ⟨gd, 0, none⟩) 1 kd, .int .i64 1, .int .i64 0, .int .i64 0, .bool false, .int .i64 0, .bool false, .int .i64 0, .bool false] : List Value).toArray 120 (0, 0)))) := ⟨(Below.refl wf.heap.size wf).drew.alloc (Nat.le_refl _) _⟩
   have N13 : As ((wf.drew.alloc (.cells ([.int .u32 ((n : Int) + 1), .slice (some ⟨gk, 0, none⟩) 1 kk, .slice (some ⟨gd, 0, none⟩) 1 kd, .int .i64 1, .int .i64 0, .int .i64 0, .bool false, .int .i64 0, .bool false, .int .i64 0, .bool false] : List Value).toArray 120 (0, 0))).heap[b13]? = some (.cells ([.int .u32 ((n : Int) + 1), .slice (some ⟨gk, 0, none⟩) 1 kk, .slice (some ⟨gd, 0, none⟩) 1 kd, .int .i64 1, .int .i64 0, .int .i64 0, .bool false, .int .i64 0, .bool false, .int .i64 0, .bool false] : List Value).toArray 120 (0, 0))) := ⟨by rw [hb13]; exact blk_new wf.drew _⟩
   have hdr : wf.drew.heap.size = b13 := by rw [hb13]; rfl
   rw [hdr]
   generalize wf.drew.alloc (.cells ([.int .u32 ((n : Int) + 1), .slice (some ⟨gk, 0, none⟩) 1 kk, .slice (some ⟨gd, 0, none⟩) 1 kd, .int .i64 1, .int .i64 0, .int .i64 0, .bool false, .int .i64 0, .bool false, .int .i64 0, .bool false] : List Value).toArray 120 (0, 0)) = w13 at *
   have h13 : As (w13.heap[lb]? = some (.cells #[pv, .slice A n c, .map (some mb), .int .u64 ((last : Int) + 1), .int .u32 1, .int .i64 1, .int .i64 y, .int .i64 nt] 93 (0, 0)) ∧ w13.heap[b6]? = some (.cells ([.int .u32 ((n : Int) + 1), .slice (some ⟨gk, 0, none⟩) 1 kk, .slice (some ⟨gd, 0, none⟩) 1 kd, .int .i64 1, .int .i64 0, .int .i64 0, .bool false, .int .i64 0, .bool false, .int .i64 0] : List Value).toArray 118 (0, 0))) := ⟨(B13.out.block lb (blk_lt hbF.out)).trans hbF.out, (B13.out.block b6 (blk_lt AF.out)).trans AF.out⟩
   refine hK _ _ (fun _ => h13.out) ?_
   clear hK K hdr
   with_reducible refine wpHeld_next (fun K hK => ?_)
   obtain ⟨i0, hi0, hz0, hz1, hz2⟩ := info_parts info120
   have R13 := As.mk (own_keep (W' := w13) RF.out (fun q hq hlq => B13.out.block q hlq))
   refine step_append_lies w13 (by rfl) _ _ _ (by rfl) 0 120 i0 _ 11 120 Tryz.underlying86 hi0 hz0 hz1 hz2 (by rfl) (by omega) (.slice A n c) n cs.flatten (by rfl) R13.out ⟨b13, 0, none⟩ 1 1 [.int .u32 ((n : Int) + 1), .slice (some ⟨gk, 0, none⟩) 1 kk, .slice (some ⟨gd, 0, none⟩) 1 kd, .int .i64 1, .int .i64 0, .int .i64 0, .bool false, .int .i64 0, .bool false, .int .i64 0, .bool false] (by rfl) rfl (World.news_of_block N13.out) (fun v hv => by
    rcases List.mem_append.1 (show v ∈ ([.int .u32 ((n : Int) + 1), .slice (some ⟨gk, 0, none⟩) 1 kk, .slice (some ⟨gd, 0, none⟩) 1 kd, .int .i64 1, .int .i64 0, .int .i64 0, .bool false, .int .i64 0, .bool false, .int .i64 0] : List Value) ++ [.bool false] from hv) with hv | hv
    ·exact orC_one _ _ _ _ _ v hv
    ·rw [List.mem_singleton.1 hv]; rfl) (by omega) (by unfold maxLen; omega) (by omega) (Nat.zero_le _) (b13 + 1) hW13 ?_
   intro gg cap w14 hown14 hgrow14 hat14 hlt14
   have HG140 : As (Below 0 w13 w14) := ⟨(Below.refl 0 w13).grown hgrow14 (Nat.zero_le _) (fun _ _ => Nat.zero_le _)⟩
   have N14 : As (∀ q, q < b13 + 1 → (¬ OL q ∨ W.heap.size ≤ q ∨ ¬ (Value.slice A n c).ownBlock = some q) → w14.heap[q]? = w13.heap[q]?) := ⟨fun q hq ho => hgrow14.block q (by omega) (fun e => by
    have h := HV.out q e.symm
    rcases ho with ho | ho | ho
    ·exact ho h.1
    ·omega
    ·exact ho e.symm)⟩
   have HB13 := As.mk hb13
   have hlbF := blk_lt hbF.out
   have h14 : As (w14.heap[lb]? = some (.cells #[pv, .slice A n c, .map (some mb), .int .u64 ((last : Int) + 1), .int .u32 1, .int .i64 1, .int .i64 y, .int .i64 nt] 93 (0, 0)) ∧ w14.heap[b6]? = some (.cells ([.int .u32 ((n : Int) + 1), .slice (some ⟨gk, 0, none⟩) 1 kk, .slice (some ⟨gd, 0, none⟩) 1 kd, .int .i64 1, .int .i64 0, .int .i64 0, .bool false, .int .i64 0, .bool false, .int .i64 0] : List Value).toArray 118 (0, 0))) := ⟨(N14.out lb (by omega) (.inl HLED.out.s1.1)).trans h13.out.1, (N14.out b6 (by have := blk_lt AF.out; omega) (.inr (.inl (by have := O6.out; have := SZ.out; omega)))).trans h13.out.2⟩
   refine hK _ _ (fun _ => h14.out) ?_
   clear hK K
   have HO14 := As.mk hown14
   have HG14 := As.mk hgrow14.size
   have HAT14 := As.mk hat14
   have HLT14 := As.mk hlt14
   clear hown14 hgrow14 hat14 hlt14 hz0 hz1 hz2 hi0 i0 hb13
   iterate 2 (with_reducible refine wpHeld_sure (fun K hK => ?_); go_simp; with_reducible refine hK _ ?_; clear hK K)
   have c1 := (blk_cell h14.out.1 1).trans rfl
   have f1 := blk_frozen h14.out.1 1
   with_reducible refine wpHeld_next (fun K hK => ?_)
   go_simp
   refine hK _ _ (fun h => absurd rfl h) ?_
   clear hK K
   refine wpHeld_nil ?_
   have hbN : As ((w14.setCell ⟨lb, 1, none⟩ (.slice (some ⟨gg, 0, none⟩) (n + 1) cap)).heap[lb]? = _) := ⟨blk_put h14.out.1 1 (.slice (some ⟨gg, 0, none⟩) (n + 1) cap)⟩
   have hfN : As (∀ q, q ≠ lb → (w14.setCell ⟨lb, 1, none⟩ (.slice (some ⟨gg, 0, none⟩) (n + 1) cap)).heap[q]? = w14.heap[q]?) := ⟨fun q hq => Below.heap_setCell _ _ _ _ hq⟩
   have hsN : As ((w14.setCell ⟨lb, 1, none⟩ (.slice (some ⟨gg, 0, none⟩) (n + 1) cap)).heap.size = w14.heap.size) := ⟨by simp⟩
   have hBN : As (Below lb w14 (w14.setCell ⟨lb, 1, none⟩ (.slice (some ⟨gg, 0, none⟩) (n + 1) cap))) := ⟨(Below.refl _ _).setCell (p := ⟨lb, 1, none⟩) (Nat.le_refl _) _⟩
   generalize w14.setCell ⟨lb, 1, none⟩ (.slice (some ⟨gg, 0, none⟩) (n + 1) cap) = wn at *
   clear c1 f1
   go_wp2_with fail
   go_ret
   refine ⟨rfl, ledNext_of HLED.out HKEYS.out hk256 HLN.out R1.out R4.out FF.out MF.out HISM.out B13.out HB13.out hbN.out (hBN.out) hsN.out hfN.out HG14.out (by have := hW13; omega) HO14.out HAT14.out HLT14.out GKF.out GDF.out LKF.out LDF.out (by have := OK.out; have := SZ.out; omega) (by have := OD.out; have := SZ.out; omega) ⟨by have := SZ.out; omega, SZ.out.2.2⟩ (fun q hq ho => N14.out q hq ho) HV.out HG140.out⟩
 ·with_reducible refine wpT_next (fun K hK => ?_)
  go_simp
  have q1 : Below wd.heap.size wd (wd.alloc (.cells #[.int .u32 0, .slice none 0 0, .slice none 0 0, .int .i64 0, .int .i64 0, .int .i64 0, .bool false, .int .i64 0, .bool false, .int .i64 0] 118)) := (Below.refl _ _).alloc (Nat.le_refl _) _
  obtain ⟨b6, hb6⟩ : ∃ b6, b6 = wd.heap.size := ⟨_, rfl⟩
  have A23 : As ((wd.alloc (.cells #[.int .u32 0, .slice none 0 0, .slice none 0 0, .int .i64 0, .int .i64 0, .int .i64 0, .bool false, .int .i64 0, .bool false, .int .i64 0] 118)).heap[b6]? = some (.cells #[.int .u32 0, .slice none 0 0, .slice none 0 0, .int .i64 0, .int .i64 0, .int .i64 0, .bool false, .int .i64 0, .bool false, .int .i64 0] 118 (0, 0))) := ⟨by rw [hb6]; exact blk_new wd _⟩
  have O6 : As (w4.heap.size ≤ b6) := ⟨by omega⟩
  rw [← hb6]
  clear hb6
  generalize wd.alloc (.cells #[.int .u32 0, .slice none 0 0, .slice none 0 0, .int .i64 0, .int .i64 0, .int .i64 0, .bool false, .int .i64 0, .bool false, .int .i64 0] 118) = w23 at *
  have B23 : As (Below w4.heap.size w4 w23) := ⟨Bd.out.trans (q1.mono hsd)⟩
  have X23 := As.mk ((q1.block b3 (blk_lt Xd.out)).trans Xd.out)
  have hs23 := B23.out.size
  refine hK _ _ X23.out ?_
  clear hK K q1
  with_reducible refine wpT_next (fun K hK => ?_)
  go_simp
  refine (HCK.out _ B23.out).mono ?_
  rintro e w24 ⟨⟨gk, kk, rfl, g1, g2, g3, g4⟩, q1⟩
  have B24 : As (Below w4.heap.size w4 w24) := ⟨B23.out.trans (q1.mono hs23)⟩
  have X24 := As.mk ((q1.block b3 (blk_lt X23.out)).trans X23.out)
  have hs24 := B24.out.size
  have A24 := As.mk ((q1.block b6 (blk_lt A23.out)).trans A23.out)
  have GK24 := As.mk g3
  have LK24 := g2
  have OK : As (w4.heap.size ≤ gk) := ⟨by omega⟩
  have NK : As (gk ≠ b6) := ⟨by have := blk_lt A23.out; omega⟩
  refine hK _ _ X24.out ?_
  clear hK K q1 g1 g2 g3 g4
  with_reducible refine wpT_next (fun K hK => ?_)
  go_simp
  refine (HCD.out _ B24.out).mono ?_
  rintro e w25 ⟨⟨gd, kd, rfl, g1, g2, g3, g4⟩, q1⟩
  have B25 : As (Below w4.heap.size w4 w25) := ⟨B24.out.trans (q1.mono hs24)⟩
  have X25 := As.mk ((q1.block b3 (blk_lt X24.out)).trans X24.out)
  have hs25 := B25.out.size
  have GK25 := As.mk (GK24.out.keep (W' := w25) (fun q o ha hq => q1.block q hq) q1.size)
  have LK25 : gk < w25.heap.size := Nat.lt_of_lt_of_le LK24 q1.size
  have A25 := As.mk ((q1.block b6 (blk_lt A24.out)).trans A24.out)
  have GD25 := As.mk g3
  have LD25 := g2
  have OD : As (w4.heap.size ≤ gd) := ⟨by omega⟩
  have ND : As (gd ≠ b6) := ⟨by have := blk_lt A24.out; omega⟩
  refine hK _ _ X25.out ?_
  clear hK K q1 g1 g2 g3 g4
  with_reducible refine wpT_next (fun K hK => ?_)
  go_simp
  refine (HCS.out _).mono ?_
  rintro e w26 ⟨rfl, q1⟩
  have B26 : As (Below w4.heap.size w4 w26) := ⟨B25.out.trans (q1.mono hs25)⟩
  have X26 := As.mk ((q1.block b3 (blk_lt X25.out)).trans X25.out)
  have hs26 := B26.out.size
  have GK26 := As.mk (GK25.out.keep (W' := w26) (fun q o ha hq => q1.block q hq) q1.size)
  have LK26 : gk < w26.heap.size := Nat.lt_of_lt_of_le LK25 q1.size
  have GD26 := As.mk (GD25.out.keep (W' := w26) (fun q o ha hq => q1.block q hq) q1.size)
  have LD26 : gd < w26.heap.size := Nat.lt_of_lt_of_le LD25 q1.size
  have A26 := As.mk ((q1.block b6 (blk_lt A25.out)).trans A25.out)
  refine hK _ _ X26.out ?_
  clear hK K q1
  iterate 1 (with_reducible refine wpT_sure (fun K hK => ?_); go_simp; with_reducible refine hK _ ?_; clear hK K)
  with_reducible refine wpT_next (fun K hK => ?_)
  rw [if_pos (by rfl)]
  refine wp_storeC 118 (.tmp 6) (.tmp 57) rfl b6 118 [.int .u32 ((n : Int) + 1), .slice (some ⟨gk, 0, none⟩) 1 kk, .slice (some ⟨gd, 0, none⟩) 1 kd, .int .i64 1, .int .i64 0, .int .i64 0, .bool false, .int .i64 0, .bool false, .int .i64 0] _ rfl rfl A26.out rfl size118 (orC_one _ _ _ _ _) ?_
  intro wf q1 q2 q3 q4
  have BF : As (Below w4.heap.size w4 wf) := ⟨B26.out.trans (q2 _ O6.out)⟩
  have AF := As.mk q1
  have GKF : As (Bytes wf (some ⟨gk, 0, none⟩) [(k : Int)]) := ⟨GK26.out.keep (fun q o ha hq => by injection ha with ha; injection ha with ha; subst ha; exact q4 gk NK.out) (by omega)⟩
  have GDF : As (Bytes wf (some ⟨gd, 0, none⟩) [(d : Int)]) := ⟨GD26.out.keep (fun q o ha hq => by injection ha with ha; injection ha with ha; subst ha; exact q4 gd ND.out) (by omega)⟩
  have XF : wf.heap[b3]? = _ := (q4 b3 (by have := O6.out; omega)).trans X26.out
  have hsF := BF.out.size
  have LKF : As (gk < wf.heap.size) := ⟨by omega⟩
  have LDF : As (gd < wf.heap.size) := ⟨by omega⟩
  refine hK _ _ XF ?_
  clear hK K q1 q2 q3 q4
  refine wpT_nil ?_
  have hbF : As (wf.heap[lb]? = some (.cells #[pv, .slice A n c, .map (some mb), .int .u64 ((last : Int) + 1), .int .u32 1, .int .i64 1, .int .i64 y, .int .i64 nt] 93 (0, 0))) := ⟨(BF.out.block lb hlb4).trans hb4.out⟩
  have FF : As (Frame (fun k => k = lb ∨ k = mb) W wf) := ⟨F4.out.trans (Frame.of_below (own := fun k => k = lb ∨ k = mb) BF.out (Nat.le_refl _)) (fun k _ h => h)⟩
  have MF := As.mk (ownsMap_keep (W' := wf) M4.out (BF.out.block mb M4.out.lt))
  obtain ⟨cs, r1, r2, r3, r4⟩ := HLED.out.ors
  have R1 := As.mk r1
  have R4 := As.mk r4
  have HV : As (∀ q, (Value.slice A n c).ownBlock = some q → OL q ∧ q < W.heap.size) := ⟨fun q hq => ⟨r3 q hq, own_lt r2 q hq⟩⟩
  have RF : As (wf.ownsRow 0 120 11 (.slice A n c) n cs.flatten) := ⟨by
   have h := own_keep (W' := wf) r2 (fun q hq hl => FF.out.block q hl (fun h => by
    have h1 := (HV.out q hq).1
    have h2 := HLED.out.s1
    rcases h with h | h
    ·exact h2.1 (h ▸ h1)
    ·exact h2.2.1 (h ▸ h1)))
   rwa [HLN.out] at h⟩
  have SZ : As (W.heap.size ≤ w4.heap.size ∧ w4.heap.size ≤ wf.heap.size ∧ lb < W.heap.size ∧ mb < W.heap.size ∧ lb ≠ mb) := ⟨⟨hs4, hsF, hlb, hmlt, hlm⟩⟩
  clear r1 r2 r3 r4 XF
  go_upto_region 12 with fail
  refine wp_region_plan_held 11 (fun w' => w'.heap[lb]? = some (.cells #[pv, .slice A n c, .map (some mb), .int .u64 ((last : Int) + 1), .int .u32 1, .int .i64 1, .int .i64 y, .int .i64 nt] 93 (0, 0)) ∧ w'.heap[b6]? = some (.cells ([.int .u32 ((n : Int) + 1), .slice (some ⟨gk, 0, none⟩) 1 kk, .slice (some ⟨gd, 0, none⟩) 1 kd, .int .i64 1, .int .i64 0, .int .i64 0, .bool false, .int .i64 0, .bool false, .int .i64 0] : List Value).toArray 118 (0, 0))) [(1,0),(1,1),(1,2),(1,3),(0,4),(0,5),(1,6),(2,7),(2,8),(1,9),(1,10),(2,11)] (by kernel_rfl) (by kernel_rfl) (by kernel_rfl) (by kernel_rfl) (fun _ _ _ _ _ h => h) ⟨hbF.out, AF.out⟩ ?_
  simp only [tagged, List.filterMap_cons, List.filterMap_nil, List.getElem?_toArray, List.getElem?_cons_succ, List.getElem?_cons_zero, Option.map_some]
  iterate 4 (with_reducible refine wpHeld_sure (fun K hK => ?_); go_simp; with_reducible refine hK _ ?_; clear hK K)
  refine wpHeld_take (fun K hK => ?_)
  rw [if_pos (by rfl)]
  apply Exists.intro
  refine ⟨fun w' hw' => ?_, hK _ ?_⟩
  ·have j0 := (blk_cell hw'.1 1).trans rfl
   go_simp
   rfl
  clear hK K
  refine wpHeld_take (fun K hK => ?_)
  rw [if_pos (by rfl)]
  refine ⟨.agg ([.int .u32 ((n : Int) + 1), .slice (some ⟨gk, 0, none⟩) 1 kk, .slice (some ⟨gd, 0, none⟩) 1 kd, .int .i64 1, .int .i64 0, .int .i64 0, .bool false, .int .i64 0, .bool false, .int .i64 0] : List Value).toArray, fun w' hw' => exec_load_mid _ _ _ 118 (.tmp 6) rfl b6 0 rfl [.int .u32 ((n : Int) + 1), .slice (some ⟨gk, 0, none⟩) 1 kk, .slice (some ⟨gd, 0, none⟩) 1 kd, .int .i64 1, .int .i64 0, .int .i64 0, .bool false, .int .i64 0, .bool false, .int .i64 0] _ (fun j v hv => by rw [Nat.zero_add, blk_cell hw'.2]; simpa using hv) Tryz.underlying118 rfl size118, hK _ ?_⟩
  clear hK K
  iterate 1 (with_reducible refine wpHeld_sure (fun K hK => ?_); go_simp; with_reducible refine hK _ ?_; clear hK K)
  with_reducible refine wpHeld_next (fun K hK => ?_)
  rw [if_pos (by rfl)]
  refine wp_build86 (.tmp 64) rfl [.int .u32 ((n : Int) + 1), .slice (some ⟨gk, 0, none⟩) 1 kk, .slice (some ⟨gd, 0, none⟩) 1 kd, .int .i64 1, .int .i64 0, .int .i64 0, .bool false, .int .i64 0, .bool false, .int .i64 0, .bool false] rfl rfl ?_
  obtain ⟨b13, hb13⟩ : ∃ b13, b13 = wf.heap.size := ⟨_, rfl⟩
  have hW13 : (wf.drew.alloc (.cells ([.int .u32 ((n : Int) + 1), .slice (some ⟨gk, 0, none⟩) 1 kk, .slice (some ⟨gd, 0, none⟩) 1 kd, .int .i64 1, .int .i64 0, .int .i64 0, .bool false, .int .i64 0, .bool false, .int .i64 0, .bool false] : List Value).toArray 120 (0, 0))).heap.size = b13 + 1 := by rw [hb13]; simp
  have B13 : As (Below wf.heap.size wf (wf.drew.alloc (.cells ([.int .u32 ((n : Int) + 1), .slice (some ⟨gk, 0, none⟩) 1 kk, .slice (some ⟨gd, 0, none⟩) 1 kd, .int .i64 1, .int .i64 0, .int .i64 0, .bool false, .int .i64 0, .bool false, .int .i64 0, .bool false] : List Value).toArray 120 (0, 0)))) := ⟨(Below.refl wf.heap.size wf).drew.alloc (Nat.le_refl _) _⟩
  have N13 : As ((wf.drew.alloc (.cells ([.int .u32 ((n : Int) + 1), .slice (some ⟨gk, 0, none⟩) 1 kk, .slice (some ⟨gd, 0, none⟩) 1 kd, .int .i64 1, .int .i64 0, .int .i64 0, .bool false, .int .i64 0, .bool false, .int .i64 0, .bool false] : List Value).toArray 120 (0, 0))).heap[b13]? = some (.cells ([.int .u32 ((n : Int) + 1), .slice (some ⟨gk, 0, none⟩) 1 kk, .slice (some ⟨gd, 0, none⟩) 1 kd, .int .i64 1, .int .i64 0, .int .i64 0, .bool false, .int .i64 0, .bool false, .int .i64 0, .bool false] : List Value).toArray 120 (0, 0))) := ⟨by rw [hb13]; exact blk_new wf.drew _⟩
  have hdr : wf.drew.heap.size = b13 := by rw [hb13]; rfl
  rw [hdr]
  generalize wf.drew.alloc (.cells ([.int .u32 ((n : Int) + 1), .slice (some ⟨gk, 0, none⟩) 1 kk, .slice (some ⟨gd, 0, none⟩) 1 kd, .int .i64 1, .int .i64 0, .int .i64 0, .bool false, .int .i64 0, .bool false, .int .i64 0, .bool false] : List Value).toArray 120 (0, 0)) = w13 at *
  have h13 : As (w13.heap[lb]? = some (.cells #[pv, .slice A n c, .map (some mb), .int .u64 ((last : Int) + 1), .int .u32 1, .int .i64 1, .int .i64 y, .int .i64 nt] 93 (0, 0)) ∧ w13.heap[b6]? = some (.cells ([.int .u32 ((n : Int) + 1), .slice (some ⟨gk, 0, none⟩) 1 kk, .slice (some ⟨gd, 0, none⟩) 1 kd, .int .i64 1, .int .i64 0, .int .i64 0, .bool false, .int .i64 0, .bool false, .int .i64 0] : List Value).toArray 118 (0, 0))) := ⟨(B13.out.block lb (blk_lt hbF.out)).trans hbF.out, (B13.out.block b6 (blk_lt AF.out)).trans AF.out⟩
  refine hK _ _ (fun _ => h13.out) ?_
  clear hK K hdr
  with_reducible refine wpHeld_next (fun K hK => ?_)
  obtain ⟨i0, hi0, hz0, hz1, hz2⟩ := info_parts info120
  have R13 := As.mk (own_keep (W' := w13) RF.out (fun q hq hlq => B13.out.block q hlq))
  refine step_append_lies w13 (by rfl) _ _ _ (by rfl) 0 120 i0 _ 11 120 Tryz.underlying86 hi0 hz0 hz1 hz2 (by rfl) (by omega) (.slice A n c) n cs.flatten (by rfl) R13.out ⟨b13, 0, none⟩ 1 1 [.int .u32 ((n : Int) + 1), .slice (some ⟨gk, 0, none⟩) 1 kk, .slice (some ⟨gd, 0, none⟩) 1 kd, .int .i64 1, .int .i64 0, .int .i64 0, .bool false, .int .i64 0, .bool false, .int .i64 0, .bool false] (by rfl) rfl (World.news_of_block N13.out) (fun v hv => by
   rcases List.mem_append.1 (show v ∈ ([.int .u32 ((n : Int) + 1), .slice (some ⟨gk, 0, none⟩) 1 kk, .slice (some ⟨gd, 0, none⟩) 1 kd, .int .i64 1, .int .i64 0, .int .i64 0, .bool false, .int .i64 0, .bool false, .int .i64 0] : List Value) ++ [.bool false] from hv) with hv | hv
   ·exact orC_one _ _ _ _ _ v hv
   ·rw [List.mem_singleton.1 hv]; rfl) (by omega) (by unfold maxLen; omega) (by omega) (Nat.zero_le _) (b13 + 1) hW13 ?_
  intro gg cap w14 hown14 hgrow14 hat14 hlt14
  have HG140 : As (Below 0 w13 w14) := ⟨(Below.refl 0 w13).grown hgrow14 (Nat.zero_le _) (fun _ _ => Nat.zero_le _)⟩
  have N14 : As (∀ q, q < b13 + 1 → (¬ OL q ∨ W.heap.size ≤ q ∨ ¬ (Value.slice A n c).ownBlock = some q) → w14.heap[q]? = w13.heap[q]?) := ⟨fun q hq ho => hgrow14.block q (by omega) (fun e => by
   have h := HV.out q e.symm
   rcases ho with ho | ho | ho
   ·exact ho h.1
   ·omega
   ·exact ho e.symm)⟩
  have HB13 := As.mk hb13
  have hlbF := blk_lt hbF.out
  have h14 : As (w14.heap[lb]? = some (.cells #[pv, .slice A n c, .map (some mb), .int .u64 ((last : Int) + 1), .int .u32 1, .int .i64 1, .int .i64 y, .int .i64 nt] 93 (0, 0)) ∧ w14.heap[b6]? = some (.cells ([.int .u32 ((n : Int) + 1), .slice (some ⟨gk, 0, none⟩) 1 kk, .slice (some ⟨gd, 0, none⟩) 1 kd, .int .i64 1, .int .i64 0, .int .i64 0, .bool false, .int .i64 0, .bool false, .int .i64 0] : List Value).toArray 118 (0, 0))) := ⟨(N14.out lb (by omega) (.inl HLED.out.s1.1)).trans h13.out.1, (N14.out b6 (by have := blk_lt AF.out; omega) (.inr (.inl (by have := O6.out; have := SZ.out; omega)))).trans h13.out.2⟩
  refine hK _ _ (fun _ => h14.out) ?_
  clear hK K
  have HO14 := As.mk hown14
  have HG14 := As.mk hgrow14.size
  have HAT14 := As.mk hat14
  have HLT14 := As.mk hlt14
  clear hown14 hgrow14 hat14 hlt14 hz0 hz1 hz2 hi0 i0 hb13
  iterate 2 (with_reducible refine wpHeld_sure (fun K hK => ?_); go_simp; with_reducible refine hK _ ?_; clear hK K)
  have c1 := (blk_cell h14.out.1 1).trans rfl
  have f1 := blk_frozen h14.out.1 1
  with_reducible refine wpHeld_next (fun K hK => ?_)
  go_simp
  refine hK _ _ (fun h => absurd rfl h) ?_
  clear hK K
  refine wpHeld_nil ?_
  have hbN : As ((w14.setCell ⟨lb, 1, none⟩ (.slice (some ⟨gg, 0, none⟩) (n + 1) cap)).heap[lb]? = _) := ⟨blk_put h14.out.1 1 (.slice (some ⟨gg, 0, none⟩) (n + 1) cap)⟩
  have hfN : As (∀ q, q ≠ lb → (w14.setCell ⟨lb, 1, none⟩ (.slice (some ⟨gg, 0, none⟩) (n + 1) cap)).heap[q]? = w14.heap[q]?) := ⟨fun q hq => Below.heap_setCell _ _ _ _ hq⟩
  have hsN : As ((w14.setCell ⟨lb, 1, none⟩ (.slice (some ⟨gg, 0, none⟩) (n + 1) cap)).heap.size = w14.heap.size) := ⟨by simp⟩
  have hBN : As (Below lb w14 (w14.setCell ⟨lb, 1, none⟩ (.slice (some ⟨gg, 0, none⟩) (n + 1) cap))) := ⟨(Below.refl _ _).setCell (p := ⟨lb, 1, none⟩) (Nat.le_refl _) _⟩
  generalize w14.setCell ⟨lb, 1, none⟩ (.slice (some ⟨gg, 0, none⟩) (n + 1) cap) = wn at *
  clear c1 f1
  go_wp2_with fail
  go_ret
  refine ⟨rfl, ledNext_of HLED.out HKEYS.out hk256 HLN.out R1.out R4.out FF.out MF.out HISM.out B13.out HB13.out hbN.out (hBN.out) hsN.out hfN.out HG14.out (by have := hW13; omega) HO14.out HAT14.out HLT14.out GKF.out GDF.out LKF.out LDF.out (by have := OK.out; have := SZ.out; omega) (by have := OD.out; have := SZ.out; omega) ⟨by have := SZ.out; omega, SZ.out.2.2⟩ (fun q hq ho => N14.out q hq ho) HV.out HG140.out⟩
end Go.Proofs.YthfjhgdiakciaaaGreat.Bl
