/- What the walks of the blocks are said in: a disk as lists of blocks, in memory; bytes in a slice; frames. Plain lemmas. No condition. -/
import Derived.Test.YthfjhgdiakciaaaGreatProg
import Derived.WalkKit
import Derived.KernelRfl
import Derived.Below
import Derived.Deep.MidRow
import Derived.Deep.AppendLies
import Derived.Deep.QuietTactic
import Derived.BigQuiet
import Derived.StillTailTactics
import Derived.Deep.DeepCutAuto
import Derived.Deep.CutBlock
import Derived.Deep.LoopGhost
import Derived.Laws.CopyOwn
import Derived.Laws.BytesArg
import Derived.Laws.MakeOwn
import Derived.Laws.OwnMore
import Derived.OwnWalk
import Derived.Lib.Hide
import Derived.WalkSpells
import Derived.Outline
import Derived.RegionTactic
import Derived.BigRegion
import Derived.WideShapes
import Derived.StillTail
import Derived.Deep.Quiet
import Derived.Lib.QuietBelow
namespace Go.Proofs.YthfjhgdiakciaaaGreat.Bl
open Go.RowKit
set_option linter.unusedVariables false
set_option linter.unusedSimpArgs false
/-- A fact laid aside: the walk does not look into it. -/
structure As (p : Prop) : Prop where
 out : p
/-! ### Lists -/
/-- The cells from o on, one by one. -/
def putAt : List Value → Nat → List Value → List Value
 | xs, _, [] => xs
 | xs, o, v :: r => putAt (xs.set o v) (o + 1) r
theorem putAt_len : ∀ (vs xs : List Value) (o : Nat), (putAt xs o vs).length = xs.length
 | [], _, _ => rfl
 | v :: r, xs, o => by rw [putAt, putAt_len r, List.length_set]
theorem putAt_get : ∀ (vs xs : List Value) (o j : Nat), (putAt xs o vs)[j]? = if o ≤ j ∧ j < o + vs.length ∧ j < xs.length then vs[j - o]? else xs[j]?
 | [], xs, o, j => by rw [putAt, if_neg (by simp; omega)]
 | v :: r, xs, o, j => by
  rw [putAt, putAt_get r (xs.set o v) (o + 1) j, List.length_set, List.length_cons]
  by_cases h1 : o + 1 ≤ j ∧ j < o + 1 + r.length ∧ j < xs.length
  ·rw [if_pos h1, if_pos (by omega)]
   have : j - o = (j - (o + 1)) + 1 := by omega
   rw [this, List.getElem?_cons_succ]
  ·rw [if_neg h1]
   by_cases h2 : j = o
   ·subst h2
    by_cases h3 : j < xs.length
    ·rw [if_pos (by omega), Nat.sub_self, List.getElem?_set_self h3]; rfl
    ·rw [if_neg (by omega), List.getElem?_set, if_pos rfl, if_neg h3, List.getElem?_eq_none (by omega)]
   ·rw [if_neg (by omega), List.getElem?_set_ne (Ne.symm h2)]
/-- Chunks of one length, laid behind one another. -/
theorem chunk_get {k : Nat} (hk : 0 < k) : ∀ (L : List (List Value)), (∀ x ∈ L, x.length = k) → ∀ j, L.flatten[j]? = (L[j / k]?).bind (·[j % k]?)
 | [], _, j => by simp
 | x :: L, h, j => by
  have hx : x.length = k := h x (List.mem_cons_self ..)
  rw [List.flatten_cons]
  by_cases hj : j < k
  ·rw [List.getElem?_append_left (by omega), Nat.div_eq_of_lt hj, Nat.mod_eq_of_lt hj]; rfl
  ·rw [List.getElem?_append_right (by omega), hx, chunk_get hk L (fun y hy => h y (List.mem_cons_of_mem _ hy))]
   have e1 : j / k = (j - k) / k + 1 := by
    have : j = (j - k) + k := by omega
    rw [this, Nat.add_div_right _ hk]; simp
   have e2 : j % k = (j - k) % k := by
    have : j = (j - k) + k := by omega
    rw [this, Nat.add_mod_right]; simp
   rw [e1, e2, List.getElem?_cons_succ]
theorem chunk_len {k : Nat} : ∀ (L : List (List Value)), (∀ x ∈ L, x.length = k) → L.flatten.length = L.length * k
 | [], _ => by simp
 | x :: L, h => by
  rw [List.flatten_cons, List.length_append, chunk_len L (fun y hy => h y (List.mem_cons_of_mem _ hy)), h x (List.mem_cons_self ..), List.length_cons, Nat.succ_mul, Nat.add_comm]
/-- Bytes as cells. -/
def bv (x : List Int) : List Value := x.map (Value.int .u8)
theorem bv_len (x : List Int) : (bv x).length = x.length := List.length_map ..
theorem bv_get (x : List Int) (j : Nat) : (bv x)[j]? = x[j]?.map (Value.int .u8) := List.getElem?_map ..
theorem bv_one (x : List Int) : ∀ v ∈ bv x, v.oneCell' = true := fun v hv => by
 obtain ⟨y, _, rfl⟩ := List.mem_map.1 hv
 rfl
/-- Blocks as cells. -/
def flat (l : List (List Int)) : List Value := (l.map bv).flatten
def All64 (l : List (List Int)) : Prop := ∀ x ∈ l, x.length = 64
theorem All64.map {l : List (List Int)} (h : All64 l) : ∀ x ∈ l.map bv, x.length = 64 := fun x hx => by
 obtain ⟨y, hy, rfl⟩ := List.mem_map.1 hx
 rw [bv_len, h y hy]
theorem flat_len {l : List (List Int)} (h : All64 l) : (flat l).length = l.length * 64 := by
 unfold flat; rw [chunk_len _ h.map, List.length_map]
theorem flat_get {l : List (List Int)} (h : All64 l) (j : Nat) : (flat l)[j]? = (l[j / 64]?).bind (fun x => (bv x)[j % 64]?) := by
 unfold flat
 rw [chunk_get (by omega) _ h.map, List.getElem?_map]
 cases l[j / 64]? <;> rfl
theorem flat_at {l : List (List Int)} (h : All64 l) (i j : Nat) (hj : j < 64) : (flat l)[i * 64 + j]? = (l[i]?).bind (fun x => (bv x)[j]?) := by
 rw [flat_get h]
 have e1 : (i * 64 + j) / 64 = i := by omega
 have e2 : (i * 64 + j) % 64 = j := by omega
 rw [e1, e2]
/-- A first part laid over a block. -/
def over (l x : List Int) : List Int := x ++ l.drop x.length
theorem over_len (l x : List Int) (h : x.length ≤ l.length) : (over l x).length = l.length := by
 unfold over; rw [List.length_append, List.length_drop]; omega
theorem over_full (l x : List Int) (h : x.length = l.length) : over l x = x := by
 unfold over; rw [h, List.drop_length, List.append_nil]
theorem All64.set {l : List (List Int)} (h : All64 l) (i : Nat) {x : List Int} (hx : x.length = 64) : All64 (l.set i x) := fun y hy => by
 rcases List.mem_or_eq_of_mem_set hy with hy | rfl
 ·exact h y hy
 ·exact hx
theorem flat_put {l : List (List Int)} (h : All64 l) (i : Nat) (hi : i < l.length) (x : List Int) (hx : x.length ≤ 64) : putAt (flat l) (i * 64) (bv x) = flat (l.set i (over l[i] x)) := by
 have hli : l[i].length = 64 := h _ (List.getElem_mem hi)
 have hov : (over l[i] x).length = 64 := by rw [over_len _ _ (by omega), hli]
 apply List.ext_getElem?
 intro j
 rw [putAt_get, flat_get (h.set i hov), flat_get h, flat_len h, bv_len]
 by_cases hji : j / 64 = i
 ·rw [hji, List.getElem?_set_self hi, List.getElem?_eq_getElem hi]
  simp only [Option.bind_some, bv_get]
  have h3 : j = i * 64 + j % 64 := by omega
  by_cases hjx : j % 64 < x.length
  ·rw [if_pos (by omega)]
   have e1 : j - i * 64 = j % 64 := by omega
   rw [e1, over, List.getElem?_append_left hjx]
  ·rw [if_neg (by omega), over, List.getElem?_append_right (by omega), List.getElem?_drop]
   congr 2
   omega
 ·rw [if_neg (by omega), List.getElem?_set_ne (Ne.symm hji)]
/-- A write that waits. -/
structure Wr where
 pos : Nat
 b : List Int
def wv (x : Wr) : List Value := .int .i64 x.pos :: bv x.b
theorem wv_len (x : Wr) (h : x.b.length = 64) : (wv x).length = 65 := by unfold wv; rw [List.length_cons, bv_len, h]
theorem wv_one (x : Wr) : ∀ v ∈ wv x, v.oneCell' = true := fun v hv => by
 rcases List.mem_cons.1 hv with rfl | hv
 ·rfl
 ·exact bv_one _ v hv
def flatW (l : List Wr) : List Value := (l.map wv).flatten
theorem flatW_snoc (l : List Wr) (x : Wr) : flatW (l ++ [x]) = flatW l ++ wv x := by simp [flatW]
theorem flatW_at {l : List Wr} (h : ∀ x ∈ l, x.b.length = 64) (i j : Nat) (hj : j < 65) : (flatW l)[i * 65 + j]? = (l[i]?).bind (fun x => (wv x)[j]?) := by
 unfold flatW
 rw [chunk_get (k := 65) (by omega) _ (fun x hx => by obtain ⟨y, hy, rfl⟩ := List.mem_map.1 hx; exact wv_len y (h y hy)), List.getElem?_map]
 have e1 : (i * 65 + j) / 65 = i := by omega
 have e2 : (i * 65 + j) % 65 = j := by omega
 rw [e1, e2]
 cases l[i]? <;> rfl
/-! ### Memory -/
theorem blk_lt {W : World} {b : Nat} {o : Obj} (h : W.heap[b]? = some o) : b < W.heap.size := (Array.getElem?_eq_some_iff.1 h).1
theorem blk_cell {W : World} {b t : Nat} {cs : Array Value} {fr : Nat × Nat} (h : W.heap[b]? = some (.cells cs t fr)) (j : Nat) : W.cell? ⟨b, j, none⟩ = cs[j]? := cell_of_row W b j cs t fr h
theorem blk_frozen {W : World} {b t : Nat} {cs : Array Value} (h : W.heap[b]? = some (.cells cs t (0, 0))) (j : Nat) : W.frozen? ⟨b, j, none⟩ = false := frozen_of_row W b j cs t h
theorem blk_put {W : World} {b t : Nat} {cs : Array Value} (h : W.heap[b]? = some (.cells cs t (0, 0))) (j : Nat) (u : Value) : (W.setCell ⟨b, j, none⟩ u).heap[b]? = some (.cells (cs.setIfInBounds j u) t (0, 0)) := heap_setCell_same W b j cs t u h
theorem blk_far {W : World} {b j g : Nat} {o : Option Obj} (h : W.heap[g]? = o) (hne : g ≠ b) (u : Value) : (W.setCell ⟨b, j, none⟩ u).heap[g]? = o := by rw [Below.heap_setCell _ _ _ _ hne]; exact h
theorem blk_old {W : World} {b : Nat} {o : Obj} (h : W.heap[b]? = some o) (x : Obj) : (W.alloc x).heap[b]? = some o := by rw [Below.heap_alloc _ _ _ (blk_lt h)]; exact h
theorem blk_new (W : World) (x : Obj) : (W.alloc x).heap[W.heap.size]? = some x := heap_alloc_new W x
theorem setCells_far {g : Nat} : ∀ (vs : List Value) (b o : Nat) (W : World), g ≠ b → (W.setCells b o vs).heap[g]? = W.heap[g]?
 | [], _, _, _, _ => rfl
 | v :: r, b, o, W, h => by rw [World.setCells, setCells_far r b _ _ h, Below.heap_setCell _ _ _ _ h]
theorem setCells_size : ∀ (vs : List Value) (b o : Nat) (W : World), (W.setCells b o vs).heap.size = W.heap.size
 | [], _, _, _ => rfl
 | v :: r, b, o, W => by rw [World.setCells, setCells_size r]; simp [World.setCell]
theorem setCells_same {t : Nat} : ∀ (vs : List Value) (b o : Nat) (W : World) (cs : List Value), W.heap[b]? = some (.cells cs.toArray t (0, 0)) → (W.setCells b o vs).heap[b]? = some (.cells (putAt cs o vs).toArray t (0, 0))
 | [], _, _, _, _, h => h
 | v :: r, b, o, W, cs, h => by
  rw [World.setCells, putAt]
  refine setCells_same r b (o + 1) _ _ ?_
  rw [blk_put h]
  simp
theorem setCells_below0 : ∀ (vs : List Value) (b o : Nat) (W : World), Below 0 W (W.setCells b o vs)
 | [], _, _, _ => Below.refl _ _
 | v :: r, b, o, W => (Below.refl 0 W).trans (((Below.refl 0 W).setCell (p := ⟨b, o, none⟩) (Nat.zero_le _) v).trans (setCells_below0 r b (o + 1) _))
theorem setCells_below {B b o : Nat} {W : World} (vs : List Value) (h : B ≤ b) : Below B W (W.setCells b o vs) := by
 have := setCells_below0 vs b o W
 exact ⟨this.os, this.tape, this.output, this.size, fun k hk => setCells_far vs b o W (by omega)⟩
/-- A row that a call owns, its cells laid over from o on. -/
theorem own_put {base e size g n cap : Nat} : ∀ (vs : List Value) (o : Nat) (xs : List Value) (W : World), W.ownsRow base e size (.slice (some ⟨g, 0, none⟩) n cap) n xs →
  (W.setCells g o vs).ownsRow base e size (.slice (some ⟨g, 0, none⟩) n cap) n (putAt xs o vs)
 | [], _, _, _, h => h
 | v :: r, o, xs, W, h => by
  rw [World.setCells, putAt]
  exact own_put r (o + 1) _ _ (h.stored o v).1
/-- Owned, in another world with the same block. -/
theorem own_keep {W W' : World} {base e size n : Nat} {v : Value} {xs : List Value} (h : W.ownsRow base e size v n xs) (hk : ∀ g, v.ownBlock = some g → g < W.heap.size → W'.heap[g]? = W.heap[g]?) : W'.ownsRow base e size v n xs := by
 obtain ⟨h1, h2⟩ := h
 refine ⟨h1, ?_⟩
 rcases h2 with h2 | ⟨g, cap, cur, rfl, hg, hh, r⟩
 ·exact .inl h2
 ·exact .inr ⟨g, cap, cur, rfl, hg, by rw [hk g rfl (blk_lt hh)]; exact hh, r⟩
theorem own_block {W : World} {base e size n c g : Nat} {xs : List Value} (h : W.ownsRow base e size (.slice (some ⟨g, 0, none⟩) n c) n xs) : ∃ cur : Array Value, W.heap[g]? = some (.cells cur e (0, 0)) ∧ cur.size = c * size ∧ n ≤ c ∧ cur.toList.take (n * size) = xs := by
 rcases h.2 with h2 | ⟨g', cap, cur, hv, hg, hh, r1, r2, r3, r4⟩
 ·cases h2.1
 ·injection hv with e1 _ e3
  injection e1 with e1
  injection e1 with e1
  subst e1 e3
  exact ⟨cur, hh, r3, r1, r4⟩
/-- Part of an owned row. -/
theorem own_range {W : World} {base e size n c g : Nat} {xs : List Value} (h : W.ownsRow base e size (.slice (some ⟨g, 0, none⟩) n c) n xs) (o : Nat) (cs : List Value) (hc : ∀ j v, cs[j]? = some v → xs[o + j]? = some v) : W.rangeAt g o cs := fun j v hv => by
 have h1 := hc j v hv
 have h2 : o + j < xs.length := (List.getElem?_eq_some_iff.1 h1).1
 rw [h.cellAt (o + j) (by rw [← h.1]; exact h2)]
 exact h1
theorem own_there {W : World} {base e size n c g : Nat} {xs : List Value} (h : W.ownsRow base e size (.slice (some ⟨g, 0, none⟩) n c) n xs) (o k : Nat) (hk : o + k ≤ n * size) : W.there g o k := fun j hj => by
 refine ⟨?_, h.frozenAt _⟩
 rw [h.cellAt (o + j) (by omega), List.getElem?_eq_getElem (by rw [h.1]; omega)]
 rfl
theorem range_sub {W : World} {b o : Nat} {cs : List Value} (h : W.rangeAt b o cs) (k : Nat) : W.rangeAt b (o + k) (cs.drop k) := fun j v hv => by
 rw [List.getElem?_drop] at hv
 have := h (k + j) v hv
 rwa [← Nat.add_assoc] at this
theorem range_take {W : World} {b o : Nat} {cs : List Value} (h : W.rangeAt b o cs) (k : Nat) : W.rangeAt b o (cs.take k) := fun j v hv => by
 rw [List.getElem?_take] at hv
 split at hv
 ·exact h j v hv
 ·cases hv
theorem range_heap {W W' : World} {b o : Nat} {cs : List Value} (h : W.rangeAt b o cs) (hk : W'.heap[b]? = W.heap[b]?) : W'.rangeAt b o cs := fun j v hv => by
 rw [World.cell?_of_block (w := W) (a := ⟨b, o + j, none⟩) hk]
 exact h j v hv
/-! ### Bytes in a slice -/
def ByteOk (x : List Int) : Prop := ∀ y ∈ x, 0 ≤ y ∧ y < 256
def Allb (l : List (List Int)) : Prop := ∀ x ∈ l, ByteOk x
/-- A slice of bytes, as it reads. -/
def Bytes (W : World) (A : Option Addr) (x : List Int) : Prop := ByteOk x ∧ (x ≠ [] → ∃ q o, A = some ⟨q, o, none⟩ ∧ q < W.heap.size ∧ W.rangeAt q o (bv x))
theorem Bytes.keep {W W' : World} {A : Option Addr} {x : List Int} (h : Bytes W A x) (hk : ∀ q o, A = some ⟨q, o, none⟩ → q < W.heap.size → W'.heap[q]? = W.heap[q]?) (hs : W.heap.size ≤ W'.heap.size) : Bytes W' A x := by
 refine ⟨h.1, fun hx => ?_⟩
 obtain ⟨q, o, rfl, hq, hr⟩ := h.2 hx
 exact ⟨q, o, rfl, by omega, range_heap hr (hk q o rfl hq)⟩
theorem Bytes.below {W W' : World} {A : Option Addr} {x : List Int} {B : Nat} (h : Bytes W A x) (hb : Below B W W') (hB : W.heap.size ≤ B) : Bytes W' A x :=
 h.keep (fun q _ _ hq => hb.block q (by omega)) hb.size
/-! ### Frames -/
/-- But for the blocks of 'own' nothing that was there has turned. -/
structure Frame (own : Nat → Prop) (W W' : World) : Prop where
 low : Below 0 W W'
 block : ∀ k, k < W.heap.size → ¬ own k → W'.heap[k]? = W.heap[k]?
theorem Frame.refl (own : Nat → Prop) (W : World) : Frame own W W := ⟨Below.refl _ _, fun _ _ _ => rfl⟩
theorem Frame.trans {own own' : Nat → Prop} {W W1 W2 : World} (h : Frame own W W1) (k : Frame own' W1 W2) (hs : ∀ k, k < W.heap.size → own' k → own k) : Frame own W W2 :=
 ⟨h.low.trans k.low, fun i hi ho => (k.block i (Nat.lt_of_lt_of_le hi h.low.size) (fun h' => ho (hs i hi h'))).trans (h.block i hi ho)⟩
theorem Frame.mono {own own' : Nat → Prop} {W W' : World} (h : Frame own W W') (hs : ∀ k, own k → own' k) : Frame own' W W' := ⟨h.low, fun k hk ho => h.block k hk (fun h' => ho (hs k h'))⟩
theorem Frame.of_below {own : Nat → Prop} {W W' : World} {B : Nat} (h : Below B W W') (hB : W.heap.size ≤ B) : Frame own W W' := ⟨h.mono (Nat.zero_le _), fun k hk _ => h.block k (by omega)⟩
theorem Frame.below {own : Nat → Prop} {W W' : World} {B : Nat} (h : Frame own W W') (hB : B ≤ W.heap.size) (ho : ∀ k, own k → B ≤ k) : Below B W W' :=
 ⟨h.low.os, h.low.tape, h.low.output, h.low.size, fun k hk => h.block k (by omega) (fun h' => by have := ho k h'; omega)⟩
theorem Frame.setCell {own : Nat → Prop} {W W' : World} (h : Frame own W W') {p : Addr} (hp : own p.block ∨ W.heap.size ≤ p.block) (u : Value) : Frame own W (W'.setCell p u) :=
 ⟨h.low.setCell (Nat.zero_le _) u, fun k hk ho => by
  rw [Below.heap_setCell _ _ _ _ (fun e => by subst e; rcases hp with hp | hp; exact ho hp; omega)]; exact h.block k hk ho⟩
theorem Frame.setCells {own : Nat → Prop} {W W' : World} (h : Frame own W W') {b : Nat} (hp : own b ∨ W.heap.size ≤ b) (o : Nat) (vs : List Value) : Frame own W (W'.setCells b o vs) :=
 ⟨h.low.trans (setCells_below0 _ _ _ _), fun k hk ho => by
  rw [setCells_far _ _ _ _ (fun e => by subst e; rcases hp with hp | hp; exact ho hp; omega)]; exact h.block k hk ho⟩
theorem Frame.alloc {own : Nat → Prop} {W W' : World} (h : Frame own W W') (x : Obj) : Frame own W (W'.alloc x) :=
 ⟨h.low.alloc (Nat.zero_le _) x, fun k hk ho => by rw [Below.heap_alloc _ _ _ (Nat.lt_of_lt_of_le hk h.low.size)]; exact h.block k hk ho⟩
theorem Frame.drew {own : Nat → Prop} {W W' : World} (h : Frame own W W') : Frame own W W'.drew := ⟨h.low.drew, h.block⟩
theorem Frame.grown {own : Nat → Prop} {W W1 W' : World} {row : Option Nat} (h : Frame own W W1) (hg : W1.grownBy W' row) (hr : ∀ k, row = some k → own k ∨ W.heap.size ≤ k) : Frame own W W' :=
 ⟨h.low.grown hg (Nat.zero_le _) (fun _ _ => Nat.zero_le _), fun k hk ho => by
  rw [hg.block k (Nat.lt_of_lt_of_le hk h.low.size) (fun e => by rcases hr k e.symm with h' | h'; exact ho h'; omega)]
  exact h.block k hk ho⟩
/-- The blocks of 'own', and those that are laid from W on. -/
def And' (own : Nat → Prop) (W : World) : Nat → Prop := fun k => own k ∨ W.heap.size ≤ k
/-! ### The disk -/
structure St where
 now : List (List Int)
 sure : List (List Int)
 wait : List Wr
 limit : Int
 left : Int
 dark : Bool
structure St.Ok (s : St) (n : Nat) : Prop where
 n1 : 1 ≤ n
 n2 : n ≤ 1024
 now : s.now.length = n
 sure : s.sure.length = n
 b1 : All64 s.now ∧ Allb s.now
 b2 : All64 s.sure ∧ Allb s.sure
 b3 : ∀ x ∈ s.wait, x.pos < n ∧ x.b.length = 64 ∧ ByteOk x.b
 l1 : -1 ≤ s.left
 l2 : s.left ≤ 9223372036854775807
structure DiskAt (W : World) (own : Nat → Prop) (b n : Nat) (s : St) (g1 c1 g2 c2 : Nat) (v : Value) : Prop where
 blk : W.heap[b]? = some (.cells #[.slice (some ⟨g1, 0, none⟩) n c1, .slice (some ⟨g2, 0, none⟩) n c2, v, .int .i64 s.limit, .int .i64 s.left, .bool s.dark] 70 (0, 0))
 now : W.ownsRow 0 149 64 (.slice (some ⟨g1, 0, none⟩) n c1) n (flat s.now)
 sure : W.ownsRow 0 149 64 (.slice (some ⟨g2, 0, none⟩) n c2) n (flat s.sure)
 wait : W.ownsRow 0 151 65 v s.wait.length (flatW s.wait)
 ne : g1 ≠ g2
 o0 : own b
 o1 : own g1
 o2 : own g2
 o3 : ∀ g, v.ownBlock = some g → own g
def Disk (W : World) (own : Nat → Prop) (b n : Nat) (s : St) : Prop := s.Ok n ∧ ∃ g1 c1 g2 c2 v, DiskAt W own b n s g1 c1 g2 c2 v
theorem ob_eq {g1 o n c g : Nat} (h : (Value.slice (some ⟨g1, o, none⟩) n c).ownBlock = some g) : g1 = g := by simpa [Value.ownBlock] using h
theorem own_ne {W : World} {base e size n b t : Nat} {v : Value} {xs : List Value} {cs : Array Value} {fr : Nat × Nat} (h : W.ownsRow base e size v n xs) (hb : W.heap[b]? = some (.cells cs t fr)) (ht : t ≠ e) : ∀ g, v.ownBlock = some g → g ≠ b := by
 intro g hg e1
 subst e1
 rcases h.2 with h2 | ⟨g', cap, cur, rfl, _, hh, _⟩
 ·rw [h2.1] at hg; cases hg
 ·have : g' = g := by simpa [Value.ownBlock] using hg
  subst this
  rw [hh] at hb
  injection hb with hb
  injection hb with _ hb
  exact ht hb.symm
theorem own_lt {W : World} {base e size n : Nat} {v : Value} {xs : List Value} (h : W.ownsRow base e size v n xs) : ∀ g, v.ownBlock = some g → g < W.heap.size := fun g hg => (h.lt g hg).2
theorem DiskAt.keep {W W' : World} {own : Nat → Prop} {b n g1 c1 g2 c2 : Nat} {s : St} {v : Value} (h : DiskAt W own b n s g1 c1 g2 c2 v) (hk : ∀ k, own k → k < W.heap.size → W'.heap[k]? = W.heap[k]?) : DiskAt W' own b n s g1 c1 g2 c2 v :=
 ⟨by rw [hk b h.o0 (blk_lt h.blk)]; exact h.blk, own_keep h.now (fun g hg hl => hk g (ob_eq hg ▸ h.o1) hl), own_keep h.sure (fun g hg hl => hk g (ob_eq hg ▸ h.o2) hl),
  own_keep h.wait (fun g hg hl => hk g (h.o3 g hg) hl), h.ne, h.o0, h.o1, h.o2, h.o3⟩
theorem Disk.keep {W W' : World} {own : Nat → Prop} {b n : Nat} {s : St} (h : Disk W own b n s) (hk : ∀ k, own k → k < W.heap.size → W'.heap[k]? = W.heap[k]?) : Disk W' own b n s := by
 obtain ⟨h1, g1, c1, g2, c2, v, h2⟩ := h
 exact ⟨h1, g1, c1, g2, c2, v, h2.keep hk⟩
theorem DiskAt.mono {W : World} {own own' : Nat → Prop} {b n g1 c1 g2 c2 : Nat} {s : St} {v : Value} (h : DiskAt W own b n s g1 c1 g2 c2 v) (hs : ∀ k, own k → own' k) : DiskAt W own' b n s g1 c1 g2 c2 v :=
 ⟨h.blk, h.now, h.sure, h.wait, h.ne, hs _ h.o0, hs _ h.o1, hs _ h.o2, fun g hg => hs _ (h.o3 g hg)⟩
theorem Disk.mono {W : World} {own own' : Nat → Prop} {b n : Nat} {s : St} (h : Disk W own b n s) (hs : ∀ k, own k → k < W.heap.size → own' k) : Disk W own' b n s := by
 obtain ⟨h1, g1, c1, g2, c2, v, h2⟩ := h
 exact ⟨h1, g1, c1, g2, c2, v, h2.blk, h2.now, h2.sure, h2.wait, h2.ne, hs _ h2.o0 (blk_lt h2.blk), hs _ h2.o1 (own_lt h2.now _ rfl), hs _ h2.o2 (own_lt h2.sure _ rfl), fun g hg => hs _ (h2.o3 g hg) (own_lt h2.wait _ hg)⟩
theorem Disk.below {W W' : World} {own : Nat → Prop} {b n B : Nat} {s : St} (h : Disk W own b n s) (hb : Below B W W') (hB : W.heap.size ≤ B) : Disk W' own b n s := h.keep (fun k _ hl => hb.block k (by omega))
theorem Disk.frame {W W' : World} {own own' : Nat → Prop} {b n : Nat} {s : St} (h : Disk W own b n s) (hf : Frame own' W W') (hd : ∀ k, own k → ¬ own' k) : Disk W' own b n s := h.keep (fun k ho hl => hf.block k hl (hd k ho))
theorem Disk.ok {W : World} {own : Nat → Prop} {b n : Nat} {s : St} (h : Disk W own b n s) : s.Ok n := h.1
theorem Disk.lt {W : World} {own : Nat → Prop} {b n : Nat} {s : St} (h : Disk W own b n s) : b < W.heap.size := by
 obtain ⟨_, _, _, _, _, _, h⟩ := h
 exact blk_lt h.blk
theorem DiskAt.cells {W : World} {own : Nat → Prop} {b n g1 c1 g2 c2 : Nat} {s : St} {v : Value} (h : DiskAt W own b n s g1 c1 g2 c2 v) :
  W.cell? ⟨b, 0, none⟩ = some (.slice (some ⟨g1, 0, none⟩) n c1) ∧ W.cell? ⟨b, 1, none⟩ = some (.slice (some ⟨g2, 0, none⟩) n c2) ∧ W.cell? ⟨b, 2, none⟩ = some v ∧ W.cell? ⟨b, 3, none⟩ = some (.int .i64 s.limit) ∧ W.cell? ⟨b, 4, none⟩ = some (.int .i64 s.left) ∧ W.cell? ⟨b, 5, none⟩ = some (.bool s.dark) :=
 ⟨(blk_cell h.blk 0).trans rfl, (blk_cell h.blk 1).trans rfl, (blk_cell h.blk 2).trans rfl, (blk_cell h.blk 3).trans rfl, (blk_cell h.blk 4).trans rfl, (blk_cell h.blk 5).trans rfl⟩
/-- A field of the disk's own is stored: the rest stands. -/
theorem DiskAt.field {W : World} {own : Nat → Prop} {b n g1 c1 g2 c2 : Nat} {s s' : St} {v : Value} (h : DiskAt W own b n s g1 c1 g2 c2 v) (j : Nat) (u : Value)
  (hs : #[.slice (some ⟨g1, 0, none⟩) n c1, .slice (some ⟨g2, 0, none⟩) n c2, v, .int .i64 s.limit, .int .i64 s.left, .bool s.dark].setIfInBounds j u = #[.slice (some ⟨g1, 0, none⟩) n c1, .slice (some ⟨g2, 0, none⟩) n c2, v, .int .i64 s'.limit, .int .i64 s'.left, .bool s'.dark])
  (e1 : s'.now = s.now) (e2 : s'.sure = s.sure) (e3 : s'.wait = s.wait) : DiskAt (W.setCell ⟨b, j, none⟩ u) own b n s' g1 c1 g2 c2 v := by
 have hne : ∀ g, v.ownBlock = some g → g ≠ b := own_ne h.wait h.blk (by decide)
 have h1 : g1 ≠ b := own_ne h.now h.blk (by decide) _ rfl
 have h2 : g2 ≠ b := own_ne h.sure h.blk (by decide) _ rfl
 refine ⟨by rw [blk_put h.blk, hs], ?_, ?_, ?_, h.ne, h.o0, h.o1, h.o2, h.o3⟩
 ·rw [e1]; exact own_keep h.now (fun g hg _ => Below.heap_setCell _ _ _ _ (ob_eq hg ▸ h1))
 ·rw [e2]; exact own_keep h.sure (fun g hg _ => Below.heap_setCell _ _ _ _ (ob_eq hg ▸ h2))
 ·rw [e3]; exact own_keep h.wait (fun g hg _ => Below.heap_setCell _ _ _ _ (hne g hg))
end Go.Proofs.YthfjhgdiakciaaaGreat.Bl
/- The methods of a disk that move no blocks: act, Waiting, Lit, Dark, Limit, Blocks. Condition: the receiver is a disk in memory, or nil. -/
namespace Go.Proofs.YthfjhgdiakciaaaGreat.Bl
open Go.RowKit
set_option linter.unusedVariables false
set_option linter.unusedSimpArgs false
def actF (s : St) : Bool × St :=
 if s.dark = true then (false, s) else if s.left = 0 then (false, { s with dark := true }) else if s.left > 0 then (true, { s with left := s.left - 1 }) else (true, s)
theorem act_ok {s : St} {n : Nat} (h : s.Ok n) : (actF s).2.Ok n := by
 obtain ⟨h1, h2, h3, h4, h5, h6, h7, h8, h9⟩ := h
 unfold actF
 split
 ·exact ⟨h1, h2, h3, h4, h5, h6, h7, h8, h9⟩
 ·split
  ·exact ⟨h1, h2, h3, h4, h5, h6, h7, h8, h9⟩
  ·split
   ·refine ⟨h1, h2, h3, h4, h5, h6, h7, ?_, ?_⟩ <;> show _ ≤ _ <;> simp only <;> omega
   ·exact ⟨h1, h2, h3, h4, h5, h6, h7, h8, h9⟩
theorem act_same (s : St) : (actF s).2.now = s.now ∧ (actF s).2.sure = s.sure ∧ (actF s).2.wait = s.wait ∧ (actF s).2.limit = s.limit := by
 unfold actF
 split
 ·exact ⟨rfl, rfl, rfl, rfl⟩
 ·split
  ·exact ⟨rfl, rfl, rfl, rfl⟩
  ·split <;> exact ⟨rfl, rfl, rfl, rfl⟩
/-- The same slices, another count or light. -/
theorem act_at {W : World} {own : Nat → Prop} {b n g1 c1 g2 c2 : Nat} {s : St} {v : Value} (h : DiskAt W own b n s g1 c1 g2 c2 v) (hok : s.Ok n) :
  Calls Tryz.prog 123 #[.pointer (some ⟨b, 0, none⟩)] W fun e W' => e = .returned (.bool (actF s).1) ∧ DiskAt W' own b n (actF s).2 g1 c1 g2 c2 v ∧ Frame own W W' ∧ (∀ k, k ≠ b → W'.heap[k]? = W.heap[k]?) ∧ W'.heap.size = W.heap.size := by
 obtain ⟨c0, c1', c2', c3, c4, c5⟩ := h.cells
 have l1 := hok.l1
 have l2 := hok.l2
 have f4 := blk_frozen h.blk 4
 have f5 := blk_frozen h.blk 5
 have H := As.mk h
 have hF := As.mk (Frame.refl own W)
 have hs : W.heap.size = W.heap.size := rfl
 clear h hok c0 c1' c2' c3 hs
 cases hd : s.dark with
 | true =>
  have e1 : As (actF s = (false, s)) := ⟨by unfold actF; rw [if_pos hd]⟩
  rw [hd] at c5
  clear hd
  go_enter Tryz.func123, Tryz.ntmps123
  go_wp2_with fail
  go_ret
  rw [e1.out]
  exact ⟨rfl, H.out, hF.out, fun _ _ => rfl, rfl⟩
 | false =>
  rw [hd] at c5
  have hd' := As.mk hd
  clear hd
  by_cases h0 : s.left = 0
  ·have e1 : As (actF s = (false, { s with dark := true })) := ⟨by unfold actF; rw [if_neg (by rw [hd'.out]; decide), if_pos h0]⟩
   rw [h0] at c4
   clear h0 l1 l2
   go_enter Tryz.func123, Tryz.ntmps123
   go_wp2_with fail
   go_ret
   rw [e1.out]
   refine ⟨rfl, H.out.field 5 (.bool true) (by simp) rfl rfl rfl, hF.out.setCell (.inl H.out.o0) _, fun k hk => Below.heap_setCell _ _ _ _ hk, by simp [World.setCell]⟩
  ·by_cases h1 : s.left > 0
   ·have e1 : As (actF s = (true, { s with left := s.left - 1 })) := ⟨by unfold actF; rw [if_neg (by rw [hd'.out]; decide), if_neg h0, if_pos h1]⟩
    generalize hl : s.left = l at *
    have HL := As.mk hl
    clear hl
    go_enter Tryz.func123, Tryz.ntmps123
    go_wp2_with fail
    go_ret
    rw [e1.out]
    refine ⟨rfl, H.out.field 4 (.int .i64 (l - 1)) (by simp [HL.out]) rfl rfl rfl, hF.out.setCell (.inl H.out.o0) _, fun k hk => Below.heap_setCell _ _ _ _ hk, by simp [World.setCell]⟩
   ·have e1 : As (actF s = (true, s)) := ⟨by unfold actF; rw [if_neg (by rw [hd'.out]; decide), if_neg h0, if_neg h1]⟩
    generalize hl : s.left = l at *
    clear hl
    go_enter Tryz.func123, Tryz.ntmps123
    go_wp2_with fail
    go_ret
    rw [e1.out]
    exact ⟨rfl, H.out, hF.out, fun _ _ => rfl, rfl⟩
theorem blocks_a {W : World} {own : Nat → Prop} {b n : Nat} {s : St} (h : Disk W own b n s) :
  Calls Tryz.prog 24 #[.pointer (some ⟨b, 0, none⟩)] W fun e W' => e = .returned (.int .i64 n) ∧ W = W' := by
 obtain ⟨hok, g1, c1, g2, c2, v, h⟩ := h
 obtain ⟨c, _⟩ := h.cells
 clear h
 go_enter Tryz.func24, Tryz.ntmps24
 go_wp2_with fail
 go_ret
 exact ⟨rfl, rfl⟩
theorem lit_a {W : World} {own : Nat → Prop} {b n : Nat} {s : St} (h : Disk W own b n s) :
  Calls Tryz.prog 25 #[.pointer (some ⟨b, 0, none⟩)] W fun e W' => e = .returned (.bool (!s.dark)) ∧ W = W' := by
 obtain ⟨hok, g1, c1, g2, c2, v, h⟩ := h
 obtain ⟨_, _, _, _, _, c⟩ := h.cells
 clear h
 go_enter Tryz.func25, Tryz.ntmps25
 go_wp2_with fail
 go_ret
 exact ⟨rfl, rfl⟩
end Go.Proofs.YthfjhgdiakciaaaGreat.Bl
/- A new disk: noughts. Condition: none. -/
namespace Go.Proofs.YthfjhgdiakciaaaGreat.Bl
open Go.RowKit
set_option linter.unusedVariables false
set_option linter.unusedSimpArgs false
def zero64 : List Int := List.replicate 64 0
theorem zero64_len : zero64.length = 64 := by simp [zero64]
/-- A new slice's cells. -/
def zs (n : Nat) : Array Value := (flat (List.replicate n zero64)).toArray
theorem info64 : (Tryz.prog.info? 149).map (fun i => (i.zero, i.size, i.bytes)) = some (some (.agg (bv zero64).toArray), 64, 64) := by kernel_rfl
theorem all64_rep (n : Nat) : All64 (List.replicate n zero64) := fun x hx => by
 rw [(List.mem_replicate.1 hx).2, zero64_len]
theorem zero_ok : ByteOk zero64 := fun y hy => by rw [(List.mem_replicate.1 hy).2]; omega
theorem allb_rep (n : Nat) : Allb (List.replicate n zero64) := fun x hx => by
 rw [(List.mem_replicate.1 hx).2]; exact zero_ok
theorem zs_made (n : Nat) : madeCells (Value.agg (bv zero64).toArray).cells (n * 64) = zs n := by
 apply Array.ext'
 apply List.ext_getElem?
 intro j
 show _ = (flat (List.replicate n zero64))[j]?
 rw [flat_get (all64_rep n)]
 have hc : (Value.agg (bv zero64).toArray).cells = Array.replicate 64 (Value.int .u8 0) := by rfl
 rw [hc]
 by_cases hj : j < n * 64
 ·have h1 : j / 64 < n := by omega
  have h2 : j % 64 < 64 := by omega
  rw [List.getElem?_replicate, if_pos h1]
  have h3 : (bv zero64)[j % 64]? = some (.int .u8 0) := by rw [bv_get, zero64, List.getElem?_replicate, if_pos h2]; rfl
  simp only [Option.bind_some]
  rw [h3]
  simp [madeCells, hj]
  rw [getElem!_pos _ _ (by simp; omega)]
  simp
 ·have h1 : ¬ j / 64 < n := by omega
  rw [List.getElem?_replicate, if_neg h1]
  simp [madeCells]
  omega
theorem mk58 (n : Nat) (h : n ≤ 1024) (w : World) : (Instr.makeSlice 67 (.int .i64 (n : Int)) (.int .i64 (n : Int))).run Tryz.prog w = .ok (.slice (some ⟨w.heap.size, 0, none⟩) n n) (w.alloc (.cells (zs n) 149 (0, 0))) := by
 obtain ⟨i, hi, hz, hs, hb⟩ := info_parts info64
 have hr := run_make (P := Tryz.prog) w 67 149 i _ Tryz.underlying67 hi hz .i64 .i64 n n (by omega) (Int.le_refl _) (by rw [hb]; omega) (by omega)
 simp only [Int.toNat_natCast] at hr
 rw [hr, hs, zs_made]
def newS (n : Nat) : St := ⟨List.replicate n zero64, List.replicate n zero64, [], n, -1, false⟩
theorem newS_ok (n : Nat) (h1 : 1 ≤ n) (h2 : n ≤ 1024) : (newS n).Ok n :=
 ⟨h1, h2, List.length_replicate, List.length_replicate, ⟨all64_rep n, allb_rep n⟩, ⟨all64_rep n, allb_rep n⟩, (fun x hx => by cases hx), (by simp [newS]), (by simp [newS])⟩
theorem zs_owned {W : World} {g n : Nat} (h : W.heap[g]? = some (.cells (zs n) 149 (0, 0))) (hn : n ≤ 1024) : W.ownsRow 0 149 64 (.slice (some ⟨g, 0, none⟩) n n) n (flat (List.replicate n zero64)) := by
 have hl : (flat (List.replicate n zero64)).length = n * 64 := by rw [flat_len (all64_rep n), List.length_replicate]
 refine ⟨hl, .inr ⟨g, n, zs n, rfl, Nat.zero_le _, h, Nat.le_refl _, by unfold maxLen; omega, by rw [zs, List.size_toArray, hl], ?_⟩⟩
 rw [zs, List.take_of_length_le (by rw [hl]; exact Nat.le_refl _)]
theorem new_at (n : Nat) (hn : n ≤ 1024) (W : World) (x y : Nat) (hxy : (x = W.heap.size ∧ y = W.heap.size + 1) ∨ (x = W.heap.size + 1 ∧ y = W.heap.size)) :
  DiskAt ((((W.alloc (.cells (zs n) 149 (0, 0))).alloc (.cells (zs n) 149 (0, 0))).alloc (.cells #[.slice (some ⟨x, 0, none⟩) n n, .slice (some ⟨y, 0, none⟩) n n, .slice none 0 0, .int .i64 n, .int .i64 (-1), .bool false] 70 (0, 0))).drew) (fun k => W.heap.size ≤ k) (W.heap.size + 1 + 1) n (newS n) x n y n (.slice none 0 0) := by
 have e0 := blk_old (blk_old (blk_new W (.cells (zs n) 149 (0, 0))) (.cells (zs n) 149 (0, 0))) (.cells #[.slice (some ⟨x, 0, none⟩) n n, .slice (some ⟨y, 0, none⟩) n n, .slice none 0 0, .int .i64 n, .int .i64 (-1), .bool false] 70 (0, 0))
 have e1 := blk_old (blk_new (W.alloc (.cells (zs n) 149 (0, 0))) (.cells (zs n) 149 (0, 0))) (.cells #[.slice (some ⟨x, 0, none⟩) n n, .slice (some ⟨y, 0, none⟩) n n, .slice none 0 0, .int .i64 n, .int .i64 (-1), .bool false] 70 (0, 0))
 have e2 := blk_new ((W.alloc (.cells (zs n) 149 (0, 0))).alloc (.cells (zs n) 149 (0, 0))) (.cells #[.slice (some ⟨x, 0, none⟩) n n, .slice (some ⟨y, 0, none⟩) n n, .slice none 0 0, .int .i64 n, .int .i64 (-1), .bool false] 70 (0, 0))
 have s1 : (W.alloc (.cells (zs n) 149 (0, 0))).heap.size = W.heap.size + 1 := by simp
 have s2 : ((W.alloc (.cells (zs n) 149 (0, 0))).alloc (.cells (zs n) 149 (0, 0))).heap.size = W.heap.size + 1 + 1 := by simp
 rw [s1] at e1
 rw [s2] at e2
 rcases hxy with ⟨rfl, rfl⟩ | ⟨rfl, rfl⟩
 ·exact ⟨e2, zs_owned e0 hn, zs_owned e1 hn, World.ownsRow_nil _ _ _ _, by omega, by omega, by omega, by omega, fun g hg => by simp [Value.ownBlock] at hg⟩
 ·exact ⟨e2, zs_owned e1 hn, zs_owned e0 hn, World.ownsRow_nil _ _ _ _, by omega, by omega, by omega, by omega, fun g hg => by simp [Value.ownBlock] at hg⟩
theorem below_three (W : World) (a b c : Obj) : Below W.heap.size W (((W.alloc a).alloc b).alloc c).drew :=
 ((((Below.refl _ _).alloc (Nat.le_refl _) a).alloc (by simp) b).alloc (by simp; omega) c).drew
theorem new_yes (n : Nat) (h1 : 1 ≤ n) (h2 : n ≤ 1024) (W : World) : Calls Tryz.prog 4 #[.int .i64 (n : Int)] W fun e W' => ∃ b, e = .returned (.tuple #[.pointer (some ⟨b, 0, none⟩), .int .i64 0]) ∧ Disk W' (fun k => W.heap.size ≤ k) b n (newS n) ∧ Below W.heap.size W W' ∧ W.heap.size ≤ b := by
 have hmk := mk58 n h2
 have i1 : ¬ (n : Int) < 1 := by omega
 have i2 : ¬ (1024 : Int) < n := by omega
 go_enter Tryz.func4, Tryz.ntmps4
 go_wp2_with fail
 go_region
 ·go_wp2_with fail
  go_ret2
  exact ⟨_, rfl, ⟨newS_ok n h1 h2, _, _, _, _, _, new_at n h2 W _ _ (.inl ⟨rfl, rfl⟩)⟩, below_three _ _ _ _, by omega⟩
 ·go_wp2_with fail
  go_ret2
  exact ⟨_, rfl, ⟨newS_ok n h1 h2, _, _, _, _, _, new_at n h2 W _ _ (.inr ⟨rfl, rfl⟩)⟩, below_three _ _ _ _, by omega⟩
end Go.Proofs.YthfjhgdiakciaaaGreat.Bl
/- A block of one byte again and again (full); are two slices the same bytes (Same). Condition: the bytes are bytes. -/
namespace Go.Proofs.YthfjhgdiakciaaaGreat.Bl
open Go.RowKit
set_option linter.unusedVariables false
set_option linter.unusedSimpArgs false
theorem info5 : (Tryz.prog.info? 5).map (fun i => (i.zero, i.size, i.bytes)) = some (some (.int .u8 0), 1, 1) := by kernel_rfl
/-- A row of bytes that a call owns, as a slice of bytes. -/
theorem bytes_of_own {W : World} {base n c g : Nat} {x : List Int} (h : W.ownsRow base 5 1 (.slice (some ⟨g, 0, none⟩) n c) n (bv x)) (hb : ByteOk x) : Bytes W (some ⟨g, 0, none⟩) x := by
 refine ⟨hb, fun _ => ⟨g, 0, rfl, own_lt h g rfl, own_range h 0 _ (fun j v hv => by simpa using hv)⟩⟩
theorem conv_bytes {W : World} {A : Option Addr} {x : List Int} (h : Bytes W A x) (c : Nat) : (convert 39 9 (.slice A x.length c)).run Tryz.prog W = .ok (.string (strOfNums x)) W := by
 by_cases hx : x = []
 ·subst hx
  cases A with
  | none => rw [run_convert_bytes_nil W 39 5 Tryz.underlying39 Tryz.underlying5 _ _ 9 Tryz.underlying9]; rfl
  | some a =>
   rw [run_convert_bytes_string W 39 9 5 _ _ c Tryz.underlying39 Tryz.underlying5 Tryz.underlying9, run_bytesToString W a _ c [] (by rfl)]
   rfl
 ·obtain ⟨q, o, rfl, _, hr⟩ := h.2 hx
  refine run_convert_bytes_arg W 39 5 Tryz.underlying39 Tryz.underlying5 q o x.length c x rfl (fun i hi => ?_) 9 Tryz.underlying9
  refine hr i _ ?_
  rw [bv_get, List.getElem?_eq_getElem hi]
  simp [List.getD, List.getElem?_eq_getElem hi]
end Go.Proofs.YthfjhgdiakciaaaGreat.Bl
/- What a block has (Read). Condition: the receiver is a disk in memory, or nil. -/
namespace Go.Proofs.YthfjhgdiakciaaaGreat.Bl
open Go.RowKit
set_option linter.unusedVariables false
set_option linter.unusedSimpArgs false
theorem size64 : (Tryz.prog.info? 149).map (·.size) = some 64 := by kernel_rfl
theorem there_block {W : World} {g t : Nat} {cs : Array Value} (h : W.heap[g]? = some (.cells cs t (0, 0))) (o k : Nat) (hk : o + k ≤ cs.size) : W.there g o k := fun j hj => by
 refine ⟨?_, blk_frozen h _⟩
 rw [blk_cell h, Array.getElem?_eq_getElem (by omega)]
 rfl
theorem putAt_whole (xs vs : List Value) (h : vs.length = xs.length) : putAt xs 0 vs = vs := by
 apply List.ext_getElem?
 intro j
 rw [putAt_get]
 by_cases hj : j < vs.length
 ·rw [if_pos (by omega)]; rfl
 ·rw [if_neg (by omega), List.getElem?_eq_none (by omega), List.getElem?_eq_none (by omega)]
theorem now_range {W : World} {own : Nat → Prop} {b n g1 c1 g2 c2 : Nat} {s : St} {v : Value} (h : DiskAt W own b n s g1 c1 g2 c2 v) (hok : s.Ok n) (i : Nat) (hi : i < s.now.length) : W.rangeAt g1 (i * 64) (bv s.now[i]) :=
 own_range h.now _ _ (fun j u hu => by
  have hl := hok.b1.1 _ (List.getElem_mem hi)
  have hj : j < 64 := by have := (List.getElem?_eq_some_iff.1 hu).1; rw [bv_len, hl] at this; exact this
  rw [flat_at hok.b1.1 i j hj, List.getElem?_eq_getElem hi]
  exact hu)
theorem read_at {W : World} {own : Nat → Prop} {b n : Nat} {s : St} (h : Disk W own b n s) (k : Nat) (hd : s.dark = false) (hk : k < s.now.length) :
  Calls Tryz.prog 26 #[.pointer (some ⟨b, 0, none⟩), .int .i64 (k : Int)] W fun e W' => ∃ g, e = .returned (.tuple #[.slice (some ⟨g, 0, none⟩) 64 64, .int .i64 0]) ∧ W'.heap[g]? = some (.cells (bv s.now[k]).toArray 149 (0, 0)) ∧ W.heap.size ≤ g ∧ Below W.heap.size W W' := by
 obtain ⟨hok, g1, c1, g2, c2, v, h⟩ := h
 obtain ⟨c0, _, _, _, _, c⟩ := h.cells
 rw [hd] at c
 have hr := As.mk (now_range h hok k hk)
 have hl : As ((bv s.now[k]).length = 64) := ⟨by rw [bv_len]; exact hok.b1.1 _ (List.getElem_mem hk)⟩
 have hk' : (k : Int) < n := by have := hok.now; omega
 have hn : (n : Int) ≤ 1024 := by have := hok.n2; omega
 generalize s.now[k] = x at *
 clear h hok hd hk
 have h0 : (0 : Int) ≤ (k : Int) := by omega
 go_enter Tryz.func26, Tryz.ntmps26
 go_wp2_with (first | (with_reducible refine wpList_load_mid rfl 149 (.tmp 32) rfl g1 (k * 64) rfl (bv x) _ hr.out Tryz.underlying149 rfl (by rw [hl.out]; exact size64) ?_) | (refine wpList_store_mid rfl 149 (.tmp 6) (.tmp 33) rfl W.heap.size 0 (bv x).toArray rfl rfl (there_block (blk_new W _) _ _ (by rw [List.size_toArray, hl.out]; exact Nat.le_refl _)) (by rw [List.size_toArray, hl.out]; exact size64) (all_oneCell_toArray (bv_one x)) ?_))
 go_ret2
 refine ⟨_, rfl, ?_, Nat.le_refl _, ?_⟩
 ·rw [setCells_same (bv x) W.heap.size 0 _ _ (blk_new W _), putAt_whole _ _ (by rw [hl.out]; rfl)]
 ·exact ((Below.refl _ _).alloc (Nat.le_refl _) _).trans (setCells_below _ (Nat.le_refl _))
end Go.Proofs.YthfjhgdiakciaaaGreat.Bl
/- slices.Clone at blocks; nothing waits any more (Flush). Condition: the receiver is a disk in memory, or nil. -/
namespace Go.Proofs.YthfjhgdiakciaaaGreat.Bl
open Go.RowKit
set_option linter.unusedVariables false
set_option linter.unusedSimpArgs false
theorem add0 (g j : Nat) : (⟨g, 0, none⟩ : Addr).add j = ⟨g, j, none⟩ := by unfold Addr.add; split <;> simp_all
theorem own_base {W : World} {base e size n : Nat} {v : Value} {xs : List Value} (h : W.ownsRow base e size v n xs) : W.ownsRow 0 e size v n xs := by
 obtain ⟨h1, h2⟩ := h
 refine ⟨h1, ?_⟩
 rcases h2 with h2 | ⟨g, cap, cur, hv, _, r⟩
 ·exact .inl h2
 ·exact .inr ⟨g, cap, cur, hv, Nat.zero_le _, r⟩
theorem flat_one (l : List (List Int)) : ∀ v ∈ flat l, v.oneCell' = true := fun v hv => by
 obtain ⟨x, hx, hv⟩ := List.mem_flatten.1 hv
 obtain ⟨y, hy, rfl⟩ := List.mem_map.1 hx
 exact bv_one y v hv
theorem clone_a {W : World} {g n c : Nat} {l : List (List Int)} (h : W.ownsRow 0 149 64 (.slice (some ⟨g, 0, none⟩) n c) n (flat l)) (h1 : 1 ≤ n) (h2 : n ≤ 1024) :
  Calls Tryz.prog 55 #[.slice (some ⟨g, 0, none⟩) n c] W fun e W' => ∃ g' c', e = .returned (.slice (some ⟨g', 0, none⟩) n c') ∧ W'.ownsRow 0 149 64 (.slice (some ⟨g', 0, none⟩) n c') n (flat l) ∧ W.heap.size ≤ g' ∧ Below W.heap.size W W' := by
 obtain ⟨i0, hi, hz0, hz1, hz2⟩ := info_parts info64
 have HO := As.mk h
 have hg := own_lt h g rfl
 have hown0 : As ((W.alloc (.cells #[] 149 (0, 0))).ownsRow W.heap.size 149 64 (.slice (some ⟨W.heap.size, 0, none⟩) 0 0) 0 []) := ⟨World.ownsRow_lit W #[] 0 (Nat.le_refl _) (Nat.zero_le _) rfl⟩
 have he : (binOp .eql 67 (.slice (some ⟨g, 0, none⟩) n c) (.slice none 0 0)).run Tryz.prog W = .ok (.bool false) W := Lib.run_eql_slice_nil W 67 149 (some ⟨g, 0, none⟩) n c 0 0 Tryz.underlying67
 clear h
 go_enter Tryz.func55, Tryz.ntmps55
 go_wp2_with ((at_builtin; refine wpList_append_lies _ rfl _ _ 67 rfl W.heap.size 149 i0 _ 64 64 Tryz.underlying67 hi hz0 hz1 hz2 rfl (by omega) _ _ _ rfl hown0.out ⟨g, 0, none⟩ n c (flat l) rfl (HO.out.1) (fun j u hu => ?c1) (flat_one l) (by omega) (by unfold maxLen; omega) (by omega) (by simp) _ rfl ?_))
 case c1 => rw [add0, World.cell?_alloc_lt _ _ _ (show g < W.heap.size from hg), HO.out.cellAt j (by rw [← HO.out.1]; exact (List.getElem?_eq_some_iff.1 hu).1)]; exact hu
 intro g' c' w1 hown hgrow hat hlt
 have HO1 := As.mk hown
 have hbg : W.heap.size ≤ g' := (hown.lt g' rfl).1
 have HB : As (Below W.heap.size W w1) := ⟨((Below.refl _ _).alloc (Nat.le_refl _) _).grown hgrow (by simp) (fun k hk => (hown0.out.lt k hk).1)⟩
 clear hown hgrow hat hlt
 go_wp2_with fail
 go_ret
 exact ⟨g', c', rfl, own_base HO1.out, hbg, HB.out⟩
def flushF (s : St) : Int × St := if (actF s).1 = true then (0, { (actF s).2 with sure := s.now, wait := [] }) else (6, (actF s).2)
theorem flush_ok {s : St} {n : Nat} (h : s.Ok n) : (flushF s).2.Ok n := by
 unfold flushF
 split
 ·obtain ⟨h1, h2, h3, h4, h5, h6, h7, h8, h9⟩ := act_ok h
  obtain ⟨e1, e2, e3, e4⟩ := act_same s
  exact ⟨h1, h2, h3, by rw [← e1]; exact h3, h5, by rw [← e1]; exact h5, (fun x hx => by cases hx), h8, h9⟩
 ·exact act_ok h
theorem flush_a {W : World} {own : Nat → Prop} {b n : Nat} {s : St} (h : Disk W own b n s) :
  Calls Tryz.prog 99 #[.pointer (some ⟨b, 0, none⟩)] W fun e W' => e = .returned (.int .i64 (flushF s).1) ∧ Disk W' (And' own W) b n (flushF s).2 ∧ Frame own W W' := by
 obtain ⟨hok, g1, c1, g2, c2, v, h⟩ := h
 have OK := As.mk hok
 have H := As.mk h
 have HA := As.mk (act_at h hok)
 clear h hok
 go_enter Tryz.func99, Tryz.ntmps99
 go_wp2_with fail
 refine HA.out.mono ?_
 rintro e w1 ⟨rfl, h1, hf1, _, hs1⟩
 clear HA
 cases ha : (actF s).1 with
 | false =>
  have HF : As (flushF s = (6, (actF s).2)) := ⟨by unfold flushF; rw [if_neg (by rw [ha]; decide)]⟩
  have H1 := As.mk h1
  have HF1 := As.mk hf1
  clear h1 hf1 ha
  go_wp2_with fail
  go_ret
  rw [HF.out]
  exact ⟨rfl, ⟨act_ok OK.out, g1, c1, g2, c2, v, H1.out.mono fun _ h => .inl h⟩, HF1.out⟩
 | true =>
  have HF : As (flushF s = (0, { (actF s).2 with sure := s.now, wait := [] })) := ⟨by unfold flushF; rw [if_pos ha]⟩
  have H1 := As.mk h1
  have HF1 := As.mk hf1
  obtain ⟨d0, d1, d2, d3, d4, d5⟩ := h1.cells
  clear h1 hf1 ha
  go_wp2_with fail
  refine (clone_a H1.out.now OK.out.n1 OK.out.n2).mono ?_
  rintro e0 w2 ⟨g', c', rfl, hown, hbg, hb2⟩
  have HO := As.mk hown
  have HB2 := As.mk hb2
  have e1 := (act_same s).1
  have hs2 := hb2.size
  have BR : As (w2.heap[b]? = some (.cells #[.slice (some ⟨g1, 0, none⟩) n c1, .slice (some ⟨g2, 0, none⟩) n c2, v, .int .i64 (actF s).2.limit, .int .i64 (actF s).2.left, .bool (actF s).2.dark] 70 (0, 0))) := ⟨(hb2.block b (blk_lt H1.out.blk)).trans H1.out.blk⟩
  have hbl := blk_lt H1.out.blk
  have hg1 : g1 < w1.heap.size := own_lt H1.out.now g1 rfl
  have E1 := As.mk e1
  clear hown hb2 d0 d1 d2 d3 d4 d5 e1
  have d1 := (blk_cell BR.out 1).trans rfl
  have d2 := (blk_cell BR.out 2).trans rfl
  have f1 := blk_frozen BR.out 1
  have f2 := blk_frozen BR.out 2
  go_wp2_with fail
  go_ret
  rw [HF.out]
  have hg1b : g1 ≠ b := own_ne H1.out.now H1.out.blk (by decide) _ rfl
  have hgb : g' ≠ b := by omega
  refine ⟨rfl, ⟨by have := flush_ok OK.out; rwa [HF.out] at this, g1, c1, g', c', .slice none 0 0, ?_⟩, ?_⟩
  ·refine ⟨?_, ?_, ?_, World.ownsRow_nil _ _ _ _, by omega, .inl H.out.o0, .inl H.out.o1, .inr (by omega), fun g hg => by simp [Value.ownBlock] at hg⟩
   ·rw [blk_put (blk_put BR.out 1 _) 2]
    simp
   ·refine own_keep H1.out.now (fun g hg hl => ?_)
    obtain rfl := ob_eq hg
    rw [Below.heap_setCell _ _ _ _ hg1b, Below.heap_setCell _ _ _ _ hg1b, HB2.out.block _ hl]
   ·rw [← E1.out]
    refine own_keep HO.out (fun g hg hl => ?_)
    obtain rfl := ob_eq hg
    rw [Below.heap_setCell _ _ _ _ hgb, Below.heap_setCell _ _ _ _ hgb]
  ·exact (((HF1.out.trans (Frame.of_below (own := own) HB2.out (Nat.le_refl _)) (fun _ _ h => h))).setCell (.inl H.out.o0) _).setCell (.inl H.out.o0) _
end Go.Proofs.YthfjhgdiakciaaaGreat.Bl
/- A region that draws its order: its first operations read, or call what lays new blocks alone; the last ones come in one order, behind them: one walk, in the text's order. Derived/StillTail.lean's theorem, over a class of worlds as Derived/Deep/Quiet.lean has it. Condition: the Bool of Derived/StillTail.lean. -/
namespace Go
open Go.RowKit
section
variable {P : Program} {ops : Array Oper} {md : Region.Mode} {C : World → Prop}
/-- Each of the operations behind number n waits for one behind n, ahead of it. -/
def Region.chain2B (md : Region.Mode) (ops : Array Oper) (n : Nat) : Bool :=
 (List.range ops.size).all fun t => decide (t ≤ n) || (List.range t).any fun j => decide (n ≤ j) && Region.waitsFor md ops t j
/-- The operations from number k on, each free when those ahead of it have come up; all of these listed behind them. -/
def Region.headB (md : Region.Mode) (ops : Array Oper) : Nat → Nat → Array Bool → Bool
 | 0, _, _ => true
 | f + 1, k, listed => (Region.ready md ops listed).contains k && Region.free md ops listed k && Region.headB md ops f (k + 1) (listed.setIfInBounds k true)
def Region.listTo : Nat → Nat → Array Bool → Array Bool
 | 0, _, listed => listed
 | f + 1, k, listed => Region.listTo f (k + 1) (listed.setIfInBounds k true)
/-- What yields a value whatever the world is. -/
def Oper.sure (P : Program) (o : Oper) (a : Act) (K : Act → Prop) : Prop := ∃ v, (∀ w, (execOp a.eval o).run P w = .ok (.value v) w) ∧ K (a.put o.dst v)
/-- All that is asked of a region's text: n operations ahead, m that yield whatever the world is, the rest in one order. -/
def Region.plan (md : Region.Mode) (ops : Array Oper) (n m : Nat) : Bool :=
 let l1 := Region.listTo n 0 (Array.replicate ops.size false)
 let l2 := Region.listTo m n l1
 Region.noSelect ops && decide (n < ops.size) && decide (n + m ≤ ops.size) && Region.sinkB md ops n && Region.chain2B md ops n && Region.headB md ops n 0 (Array.replicate ops.size false) &&
  (Region.ready md ops l1).all (fun j => decide (n ≤ j)) && Region.headB md ops m n l1 && Region.seqB md ops (ops.size - (n + m)) (n + m) l2
end
end Go
