/- What the walks of the blocks are said in: a disk as lists of blocks, in memory; bytes in a slice; frames. Plain lemmas. No condition. -/
import Derived.Test.YtfhnhkjbfaieiaaProg
import Derived.WalkKit
import Derived.KernelRfl
import Derived.Below
import Derived.Deep.MidRow
import Derived.Deep.AppendLies
import Derived.Deep.QuietTactic
import Derived.BigQuiet
import Derived.StillTailTactics
import Derived.Deep.DeepCutAuto
import Derived.Deep.CutBlock
import Derived.Deep.LoopGhost
import Derived.Laws.CopyOwn
import Derived.Laws.BytesArg
import Derived.Laws.MakeOwn
import Derived.Laws.OwnMore
import Derived.OwnWalk
import Derived.Lib.Hide
import Derived.WalkSpells
import Derived.Outline
namespace Go.Proofs.Ytfhnhkjbfaieiaa.Bl
open Go.RowKit
set_option linter.unusedVariables false
set_option linter.unusedSimpArgs false
/-- A fact laid aside: the walk does not look into it. -/
structure As (p : Prop) : Prop where
  out : p
/-! ### Lists -/
/-- The cells from o on, one by one. -/
def putAt : List Value → Nat → List Value → List Value
  | xs, _, [] => xs
  | xs, o, v :: r => putAt (xs.set o v) (o + 1) r
theorem putAt_len : ∀ (vs xs : List Value) (o : Nat), (putAt xs o vs).length = xs.length
  | [], _, _ => rfl
  | v :: r, xs, o => by rw [putAt, putAt_len r, List.length_set]
theorem putAt_get : ∀ (vs xs : List Value) (o j : Nat), (putAt xs o vs)[j]? = if o ≤ j ∧ j < o + vs.length ∧ j < xs.length then vs[j - o]? else xs[j]?
  | [], xs, o, j => by rw [putAt, if_neg (by simp; omega)]
  | v :: r, xs, o, j => by
    rw [putAt, putAt_get r (xs.set o v) (o + 1) j, List.length_set, List.length_cons]
    by_cases h1 : o + 1 ≤ j ∧ j < o + 1 + r.length ∧ j < xs.length
    · rw [if_pos h1, if_pos (by omega)]
      have : j - o = (j - (o + 1)) + 1 := by omega
      rw [this, List.getElem?_cons_succ]
    · rw [if_neg h1]
      by_cases h2 : j = o
      · subst h2
        by_cases h3 : j < xs.length
        · rw [if_pos (by omega), Nat.sub_self, List.getElem?_set_self h3]; rfl
        · rw [if_neg (by omega), List.getElem?_set, if_pos rfl, if_neg h3, List.getElem?_eq_none (by omega)]
      · rw [if_neg (by omega), List.getElem?_set_ne (Ne.symm h2)]
/-- Chunks of one length, laid behind one another. -/
theorem chunk_get {k : Nat} (hk : 0 < k) : ∀ (L : List (List Value)), (∀ x ∈ L, x.length = k) → ∀ j, L.flatten[j]? = (L[j / k]?).bind (·[j % k]?)
  | [], _, j => by simp
  | x :: L, h, j => by
    have hx : x.length = k := h x (List.mem_cons_self ..)
    rw [List.flatten_cons]
    by_cases hj : j < k
    · rw [List.getElem?_append_left (by omega), Nat.div_eq_of_lt hj, Nat.mod_eq_of_lt hj]; rfl
    · rw [List.getElem?_append_right (by omega), hx, chunk_get hk L (fun y hy => h y (List.mem_cons_of_mem _ hy))]
      have e1 : j / k = (j - k) / k + 1 := by
        have : j = (j - k) + k := by omega
        rw [this, Nat.add_div_right _ hk]; simp
      have e2 : j % k = (j - k) % k := by
        have : j = (j - k) + k := by omega
        rw [this, Nat.add_mod_right]; simp
      rw [e1, e2, List.getElem?_cons_succ]
theorem chunk_len {k : Nat} : ∀ (L : List (List Value)), (∀ x ∈ L, x.length = k) → L.flatten.length = L.length * k
  | [], _ => by simp
  | x :: L, h => by
    rw [List.flatten_cons, List.length_append, chunk_len L (fun y hy => h y (List.mem_cons_of_mem _ hy)), h x (List.mem_cons_self ..), List.length_cons, Nat.succ_mul, Nat.add_comm]
/-- Bytes as cells. -/
def bv (x : List Int) : List Value := x.map (Value.int .u8)
theorem bv_len (x : List Int) : (bv x).length = x.length := List.length_map ..
theorem bv_get (x : List Int) (j : Nat) : (bv x)[j]? = x[j]?.map (Value.int .u8) := List.getElem?_map ..
theorem bv_one (x : List Int) : ∀ v ∈ bv x, v.oneCell' = true := fun v hv => by
  obtain ⟨y, _, rfl⟩ := List.mem_map.1 hv
  rfl
/-- Blocks as cells. -/
def flat (l : List (List Int)) : List Value := (l.map bv).flatten
def All64 (l : List (List Int)) : Prop := ∀ x ∈ l, x.length = 64
theorem All64.map {l : List (List Int)} (h : All64 l) : ∀ x ∈ l.map bv, x.length = 64 := fun x hx => by
  obtain ⟨y, hy, rfl⟩ := List.mem_map.1 hx
  rw [bv_len, h y hy]
theorem flat_len {l : List (List Int)} (h : All64 l) : (flat l).length = l.length * 64 := by
  unfold flat; rw [chunk_len _ h.map, List.length_map]
theorem flat_get {l : List (List Int)} (h : All64 l) (j : Nat) : (flat l)[j]? = (l[j / 64]?).bind (fun x => (bv x)[j % 64]?) := by
  unfold flat
  rw [chunk_get (by omega) _ h.map, List.getElem?_map]
  cases l[j / 64]? <;> rfl
theorem flat_at {l : List (List Int)} (h : All64 l) (i j : Nat) (hj : j < 64) : (flat l)[i * 64 + j]? = (l[i]?).bind (fun x => (bv x)[j]?) := by
  rw [flat_get h]
  have e1 : (i * 64 + j) / 64 = i := by omega
  have e2 : (i * 64 + j) % 64 = j := by omega
  rw [e1, e2]
/-- A first part laid over a block. -/
def over (l x : List Int) : List Int := x ++ l.drop x.length
theorem over_len (l x : List Int) (h : x.length ≤ l.length) : (over l x).length = l.length := by
  unfold over; rw [List.length_append, List.length_drop]; omega
theorem over_full (l x : List Int) (h : x.length = l.length) : over l x = x := by
  unfold over; rw [h, List.drop_length, List.append_nil]
theorem All64.set {l : List (List Int)} (h : All64 l) (i : Nat) {x : List Int} (hx : x.length = 64) : All64 (l.set i x) := fun y hy => by
  rcases List.mem_or_eq_of_mem_set hy with hy | rfl
  · exact h y hy
  · exact hx
theorem flat_put {l : List (List Int)} (h : All64 l) (i : Nat) (hi : i < l.length) (x : List Int) (hx : x.length ≤ 64) : putAt (flat l) (i * 64) (bv x) = flat (l.set i (over l[i] x)) := by
  have hli : l[i].length = 64 := h _ (List.getElem_mem hi)
  have hov : (over l[i] x).length = 64 := by rw [over_len _ _ (by omega), hli]
  apply List.ext_getElem?
  intro j
  rw [putAt_get, flat_get (h.set i hov), flat_get h, flat_len h, bv_len]
  by_cases hji : j / 64 = i
  · rw [hji, List.getElem?_set_self hi, List.getElem?_eq_getElem hi]
    simp only [Option.bind_some, bv_get]
    have h3 : j = i * 64 + j % 64 := by omega
    by_cases hjx : j % 64 < x.length
    · rw [if_pos (by omega)]
      have e1 : j - i * 64 = j % 64 := by omega
      rw [e1, over, List.getElem?_append_left hjx]
    · rw [if_neg (by omega), over, List.getElem?_append_right (by omega), List.getElem?_drop]
      congr 2
      omega
  · rw [if_neg (by omega), List.getElem?_set_ne (Ne.symm hji)]
/-- A write that waits. -/
structure Wr where
  pos : Nat
  b : List Int
def wv (x : Wr) : List Value := .int .i64 x.pos :: bv x.b
theorem wv_len (x : Wr) (h : x.b.length = 64) : (wv x).length = 65 := by unfold wv; rw [List.length_cons, bv_len, h]
theorem wv_one (x : Wr) : ∀ v ∈ wv x, v.oneCell' = true := fun v hv => by
  rcases List.mem_cons.1 hv with rfl | hv
  · rfl
  · exact bv_one _ v hv
def flatW (l : List Wr) : List Value := (l.map wv).flatten
theorem flatW_snoc (l : List Wr) (x : Wr) : flatW (l ++ [x]) = flatW l ++ wv x := by simp [flatW]
theorem flatW_at {l : List Wr} (h : ∀ x ∈ l, x.b.length = 64) (i j : Nat) (hj : j < 65) : (flatW l)[i * 65 + j]? = (l[i]?).bind (fun x => (wv x)[j]?) := by
  unfold flatW
  rw [chunk_get (k := 65) (by omega) _ (fun x hx => by obtain ⟨y, hy, rfl⟩ := List.mem_map.1 hx; exact wv_len y (h y hy)), List.getElem?_map]
  have e1 : (i * 65 + j) / 65 = i := by omega
  have e2 : (i * 65 + j) % 65 = j := by omega
  rw [e1, e2]
  cases l[i]? <;> rfl
/-! ### Memory -/
theorem blk_lt {W : World} {b : Nat} {o : Obj} (h : W.heap[b]? = some o) : b < W.heap.size := (Array.getElem?_eq_some_iff.1 h).1
theorem blk_cell {W : World} {b t : Nat} {cs : Array Value} {fr : Nat × Nat} (h : W.heap[b]? = some (.cells cs t fr)) (j : Nat) : W.cell? ⟨b, j, none⟩ = cs[j]? := cell_of_row W b j cs t fr h
theorem blk_frozen {W : World} {b t : Nat} {cs : Array Value} (h : W.heap[b]? = some (.cells cs t (0, 0))) (j : Nat) : W.frozen? ⟨b, j, none⟩ = false := frozen_of_row W b j cs t h
theorem blk_put {W : World} {b t : Nat} {cs : Array Value} (h : W.heap[b]? = some (.cells cs t (0, 0))) (j : Nat) (u : Value) : (W.setCell ⟨b, j, none⟩ u).heap[b]? = some (.cells (cs.setIfInBounds j u) t (0, 0)) := heap_setCell_same W b j cs t u h
theorem blk_far {W : World} {b j g : Nat} {o : Option Obj} (h : W.heap[g]? = o) (hne : g ≠ b) (u : Value) : (W.setCell ⟨b, j, none⟩ u).heap[g]? = o := by rw [Below.heap_setCell _ _ _ _ hne]; exact h
theorem blk_old {W : World} {b : Nat} {o : Obj} (h : W.heap[b]? = some o) (x : Obj) : (W.alloc x).heap[b]? = some o := by rw [Below.heap_alloc _ _ _ (blk_lt h)]; exact h
theorem blk_new (W : World) (x : Obj) : (W.alloc x).heap[W.heap.size]? = some x := heap_alloc_new W x
theorem setCells_far {g : Nat} : ∀ (vs : List Value) (b o : Nat) (W : World), g ≠ b → (W.setCells b o vs).heap[g]? = W.heap[g]?
  | [], _, _, _, _ => rfl
  | v :: r, b, o, W, h => by rw [World.setCells, setCells_far r b _ _ h, Below.heap_setCell _ _ _ _ h]
theorem setCells_size : ∀ (vs : List Value) (b o : Nat) (W : World), (W.setCells b o vs).heap.size = W.heap.size
  | [], _, _, _ => rfl
  | v :: r, b, o, W => by rw [World.setCells, setCells_size r]; simp [World.setCell]
theorem setCells_same {t : Nat} : ∀ (vs : List Value) (b o : Nat) (W : World) (cs : List Value), W.heap[b]? = some (.cells cs.toArray t (0, 0)) → (W.setCells b o vs).heap[b]? = some (.cells (putAt cs o vs).toArray t (0, 0))
  | [], _, _, _, _, h => h
  | v :: r, b, o, W, cs, h => by
    rw [World.setCells, putAt]
    refine setCells_same r b (o + 1) _ _ ?_
    rw [blk_put h]
    simp
theorem setCells_below0 : ∀ (vs : List Value) (b o : Nat) (W : World), Below 0 W (W.setCells b o vs)
  | [], _, _, _ => Below.refl _ _
  | v :: r, b, o, W => (Below.refl 0 W).trans (((Below.refl 0 W).setCell (p := ⟨b, o, none⟩) (Nat.zero_le _) v).trans (setCells_below0 r b (o + 1) _))
theorem setCells_below {B b o : Nat} {W : World} (vs : List Value) (h : B ≤ b) : Below B W (W.setCells b o vs) := by
  have := setCells_below0 vs b o W
  exact ⟨this.os, this.tape, this.output, this.size, fun k hk => setCells_far vs b o W (by omega)⟩
/-- A row that a call owns, its cells laid over from o on. -/
theorem own_put {base e size g n cap : Nat} : ∀ (vs : List Value) (o : Nat) (xs : List Value) (W : World), W.ownsRow base e size (.slice (some ⟨g, 0, none⟩) n cap) n xs →
    (W.setCells g o vs).ownsRow base e size (.slice (some ⟨g, 0, none⟩) n cap) n (putAt xs o vs)
  | [], _, _, _, h => h
  | v :: r, o, xs, W, h => by
    rw [World.setCells, putAt]
    exact own_put r (o + 1) _ _ (h.stored o v).1
/-- Owned, in another world with the same block. -/
theorem own_keep {W W' : World} {base e size n : Nat} {v : Value} {xs : List Value} (h : W.ownsRow base e size v n xs) (hk : ∀ g, v.ownBlock = some g → g < W.heap.size → W'.heap[g]? = W.heap[g]?) : W'.ownsRow base e size v n xs := by
  obtain ⟨h1, h2⟩ := h
  refine ⟨h1, ?_⟩
  rcases h2 with h2 | ⟨g, cap, cur, rfl, hg, hh, r⟩
  · exact .inl h2
  · exact .inr ⟨g, cap, cur, rfl, hg, by rw [hk g rfl (blk_lt hh)]; exact hh, r⟩
theorem own_block {W : World} {base e size n c g : Nat} {xs : List Value} (h : W.ownsRow base e size (.slice (some ⟨g, 0, none⟩) n c) n xs) : ∃ cur : Array Value, W.heap[g]? = some (.cells cur e (0, 0)) ∧ cur.size = c * size ∧ n ≤ c ∧ cur.toList.take (n * size) = xs := by
  rcases h.2 with h2 | ⟨g', cap, cur, hv, hg, hh, r1, r2, r3, r4⟩
  · cases h2.1
  · injection hv with e1 _ e3
    injection e1 with e1
    injection e1 with e1
    subst e1 e3
    exact ⟨cur, hh, r3, r1, r4⟩
/-- Part of an owned row. -/
theorem own_range {W : World} {base e size n c g : Nat} {xs : List Value} (h : W.ownsRow base e size (.slice (some ⟨g, 0, none⟩) n c) n xs) (o : Nat) (cs : List Value) (hc : ∀ j v, cs[j]? = some v → xs[o + j]? = some v) : W.rangeAt g o cs := fun j v hv => by
  have h1 := hc j v hv
  have h2 : o + j < xs.length := (List.getElem?_eq_some_iff.1 h1).1
  rw [h.cellAt (o + j) (by rw [← h.1]; exact h2)]
  exact h1
theorem own_there {W : World} {base e size n c g : Nat} {xs : List Value} (h : W.ownsRow base e size (.slice (some ⟨g, 0, none⟩) n c) n xs) (o k : Nat) (hk : o + k ≤ n * size) : W.there g o k := fun j hj => by
  refine ⟨?_, h.frozenAt _⟩
  rw [h.cellAt (o + j) (by omega), List.getElem?_eq_getElem (by rw [h.1]; omega)]
  rfl
theorem range_sub {W : World} {b o : Nat} {cs : List Value} (h : W.rangeAt b o cs) (k : Nat) : W.rangeAt b (o + k) (cs.drop k) := fun j v hv => by
  rw [List.getElem?_drop] at hv
  have := h (k + j) v hv
  rwa [← Nat.add_assoc] at this
theorem range_take {W : World} {b o : Nat} {cs : List Value} (h : W.rangeAt b o cs) (k : Nat) : W.rangeAt b o (cs.take k) := fun j v hv => by
  rw [List.getElem?_take] at hv
  split at hv
  · exact h j v hv
  · cases hv
theorem range_heap {W W' : World} {b o : Nat} {cs : List Value} (h : W.rangeAt b o cs) (hk : W'.heap[b]? = W.heap[b]?) : W'.rangeAt b o cs := fun j v hv => by
  rw [World.cell?_of_block (w := W) (a := ⟨b, o + j, none⟩) hk]
  exact h j v hv
/-! ### Bytes in a slice -/
def ByteOk (x : List Int) : Prop := ∀ y ∈ x, 0 ≤ y ∧ y < 256
def Allb (l : List (List Int)) : Prop := ∀ x ∈ l, ByteOk x
/-- A slice of bytes, as it reads. -/
def Bytes (W : World) (A : Option Addr) (x : List Int) : Prop := ByteOk x ∧ (x ≠ [] → ∃ q o, A = some ⟨q, o, none⟩ ∧ q < W.heap.size ∧ W.rangeAt q o (bv x))
theorem Bytes.keep {W W' : World} {A : Option Addr} {x : List Int} (h : Bytes W A x) (hk : ∀ q o, A = some ⟨q, o, none⟩ → q < W.heap.size → W'.heap[q]? = W.heap[q]?) (hs : W.heap.size ≤ W'.heap.size) : Bytes W' A x := by
  refine ⟨h.1, fun hx => ?_⟩
  obtain ⟨q, o, rfl, hq, hr⟩ := h.2 hx
  exact ⟨q, o, rfl, by omega, range_heap hr (hk q o rfl hq)⟩
theorem Bytes.below {W W' : World} {A : Option Addr} {x : List Int} {B : Nat} (h : Bytes W A x) (hb : Below B W W') (hB : W.heap.size ≤ B) : Bytes W' A x :=
  h.keep (fun q _ _ hq => hb.block q (by omega)) hb.size
/-! ### Frames -/
/-- But for the blocks of 'own' nothing that was there has turned. -/
structure Frame (own : Nat → Prop) (W W' : World) : Prop where
  low : Below 0 W W'
  block : ∀ k, k < W.heap.size → ¬ own k → W'.heap[k]? = W.heap[k]?
theorem Frame.refl (own : Nat → Prop) (W : World) : Frame own W W := ⟨Below.refl _ _, fun _ _ _ => rfl⟩
theorem Frame.trans {own own' : Nat → Prop} {W W1 W2 : World} (h : Frame own W W1) (k : Frame own' W1 W2) (hs : ∀ k, k < W.heap.size → own' k → own k) : Frame own W W2 :=
  ⟨h.low.trans k.low, fun i hi ho => (k.block i (Nat.lt_of_lt_of_le hi h.low.size) (fun h' => ho (hs i hi h'))).trans (h.block i hi ho)⟩
theorem Frame.mono {own own' : Nat → Prop} {W W' : World} (h : Frame own W W') (hs : ∀ k, own k → own' k) : Frame own' W W' := ⟨h.low, fun k hk ho => h.block k hk (fun h' => ho (hs k h'))⟩
theorem Frame.of_below {own : Nat → Prop} {W W' : World} {B : Nat} (h : Below B W W') (hB : W.heap.size ≤ B) : Frame own W W' := ⟨h.mono (Nat.zero_le _), fun k hk _ => h.block k (by omega)⟩
theorem Frame.below {own : Nat → Prop} {W W' : World} {B : Nat} (h : Frame own W W') (hB : B ≤ W.heap.size) (ho : ∀ k, own k → B ≤ k) : Below B W W' :=
  ⟨h.low.os, h.low.tape, h.low.output, h.low.size, fun k hk => h.block k (by omega) (fun h' => by have := ho k h'; omega)⟩
theorem Frame.setCell {own : Nat → Prop} {W W' : World} (h : Frame own W W') {p : Addr} (hp : own p.block ∨ W.heap.size ≤ p.block) (u : Value) : Frame own W (W'.setCell p u) :=
  ⟨h.low.setCell (Nat.zero_le _) u, fun k hk ho => by
    rw [Below.heap_setCell _ _ _ _ (fun e => by subst e; rcases hp with hp | hp; exact ho hp; omega)]; exact h.block k hk ho⟩
theorem Frame.setCells {own : Nat → Prop} {W W' : World} (h : Frame own W W') {b : Nat} (hp : own b ∨ W.heap.size ≤ b) (o : Nat) (vs : List Value) : Frame own W (W'.setCells b o vs) :=
  ⟨h.low.trans (setCells_below0 _ _ _ _), fun k hk ho => by
    rw [setCells_far _ _ _ _ (fun e => by subst e; rcases hp with hp | hp; exact ho hp; omega)]; exact h.block k hk ho⟩
theorem Frame.alloc {own : Nat → Prop} {W W' : World} (h : Frame own W W') (x : Obj) : Frame own W (W'.alloc x) :=
  ⟨h.low.alloc (Nat.zero_le _) x, fun k hk ho => by rw [Below.heap_alloc _ _ _ (Nat.lt_of_lt_of_le hk h.low.size)]; exact h.block k hk ho⟩
theorem Frame.drew {own : Nat → Prop} {W W' : World} (h : Frame own W W') : Frame own W W'.drew := ⟨h.low.drew, h.block⟩
theorem Frame.drewN {own : Nat → Prop} {W W' : World} (h : Frame own W W') (n : Nat) : Frame own W (W'.drewN n) := ⟨⟨h.low.os, h.low.tape, h.low.output, h.low.size, h.low.block⟩, h.block⟩
theorem Frame.grown {own : Nat → Prop} {W W1 W' : World} {row : Option Nat} (h : Frame own W W1) (hg : W1.grownBy W' row) (hr : ∀ k, row = some k → own k ∨ W.heap.size ≤ k) : Frame own W W' :=
  ⟨h.low.grown hg (Nat.zero_le _) (fun _ _ => Nat.zero_le _), fun k hk ho => by
    rw [hg.block k (Nat.lt_of_lt_of_le hk h.low.size) (fun e => by rcases hr k e.symm with h' | h'; exact ho h'; omega)]
    exact h.block k hk ho⟩
/-- The blocks of 'own', and those that are laid from W on. -/
def And' (own : Nat → Prop) (W : World) : Nat → Prop := fun k => own k ∨ W.heap.size ≤ k
/-! ### The disk -/
structure St where
  now : List (List Int)
  sure : List (List Int)
  wait : List Wr
  limit : Int
  left : Int
  dark : Bool
structure St.Ok (s : St) (n : Nat) : Prop where
  n1 : 1 ≤ n
  n2 : n ≤ 1024
  now : s.now.length = n
  sure : s.sure.length = n
  b1 : All64 s.now ∧ Allb s.now
  b2 : All64 s.sure ∧ Allb s.sure
  b3 : ∀ x ∈ s.wait, x.pos < n ∧ x.b.length = 64 ∧ ByteOk x.b
  l1 : -1 ≤ s.left
  l2 : s.left ≤ 9223372036854775807
structure DiskAt (W : World) (own : Nat → Prop) (b n : Nat) (s : St) (g1 c1 g2 c2 : Nat) (v : Value) : Prop where
  blk : W.heap[b]? = some (.cells #[.slice (some ⟨g1, 0, none⟩) n c1, .slice (some ⟨g2, 0, none⟩) n c2, v, .int .i64 s.limit, .int .i64 s.left, .bool s.dark] 61 (0, 0))
  now : W.ownsRow 0 64 64 (.slice (some ⟨g1, 0, none⟩) n c1) n (flat s.now)
  sure : W.ownsRow 0 64 64 (.slice (some ⟨g2, 0, none⟩) n c2) n (flat s.sure)
  wait : W.ownsRow 0 66 65 v s.wait.length (flatW s.wait)
  ne : g1 ≠ g2
  o0 : own b
  o1 : own g1
  o2 : own g2
  o3 : ∀ g, v.ownBlock = some g → own g
def Disk (W : World) (own : Nat → Prop) (b n : Nat) (s : St) : Prop := s.Ok n ∧ ∃ g1 c1 g2 c2 v, DiskAt W own b n s g1 c1 g2 c2 v
theorem ob_eq {g1 o n c g : Nat} (h : (Value.slice (some ⟨g1, o, none⟩) n c).ownBlock = some g) : g1 = g := by simpa [Value.ownBlock] using h
theorem own_ne {W : World} {base e size n b t : Nat} {v : Value} {xs : List Value} {cs : Array Value} {fr : Nat × Nat} (h : W.ownsRow base e size v n xs) (hb : W.heap[b]? = some (.cells cs t fr)) (ht : t ≠ e) : ∀ g, v.ownBlock = some g → g ≠ b := by
  intro g hg e1
  subst e1
  rcases h.2 with h2 | ⟨g', cap, cur, rfl, _, hh, _⟩
  · rw [h2.1] at hg; cases hg
  · have : g' = g := by simpa [Value.ownBlock] using hg
    subst this
    rw [hh] at hb
    injection hb with hb
    injection hb with _ hb
    exact ht hb.symm
theorem own_lt {W : World} {base e size n : Nat} {v : Value} {xs : List Value} (h : W.ownsRow base e size v n xs) : ∀ g, v.ownBlock = some g → g < W.heap.size := fun g hg => (h.lt g hg).2
theorem DiskAt.keep {W W' : World} {own : Nat → Prop} {b n g1 c1 g2 c2 : Nat} {s : St} {v : Value} (h : DiskAt W own b n s g1 c1 g2 c2 v) (hk : ∀ k, own k → k < W.heap.size → W'.heap[k]? = W.heap[k]?) : DiskAt W' own b n s g1 c1 g2 c2 v :=
  ⟨by rw [hk b h.o0 (blk_lt h.blk)]; exact h.blk, own_keep h.now (fun g hg hl => hk g (ob_eq hg ▸ h.o1) hl), own_keep h.sure (fun g hg hl => hk g (ob_eq hg ▸ h.o2) hl),
    own_keep h.wait (fun g hg hl => hk g (h.o3 g hg) hl), h.ne, h.o0, h.o1, h.o2, h.o3⟩
theorem Disk.keep {W W' : World} {own : Nat → Prop} {b n : Nat} {s : St} (h : Disk W own b n s) (hk : ∀ k, own k → k < W.heap.size → W'.heap[k]? = W.heap[k]?) : Disk W' own b n s := by
  obtain ⟨h1, g1, c1, g2, c2, v, h2⟩ := h
  exact ⟨h1, g1, c1, g2, c2, v, h2.keep hk⟩
theorem DiskAt.mono {W : World} {own own' : Nat → Prop} {b n g1 c1 g2 c2 : Nat} {s : St} {v : Value} (h : DiskAt W own b n s g1 c1 g2 c2 v) (hs : ∀ k, own k → own' k) : DiskAt W own' b n s g1 c1 g2 c2 v :=
  ⟨h.blk, h.now, h.sure, h.wait, h.ne, hs _ h.o0, hs _ h.o1, hs _ h.o2, fun g hg => hs _ (h.o3 g hg)⟩
theorem Disk.mono {W : World} {own own' : Nat → Prop} {b n : Nat} {s : St} (h : Disk W own b n s) (hs : ∀ k, own k → k < W.heap.size → own' k) : Disk W own' b n s := by
  obtain ⟨h1, g1, c1, g2, c2, v, h2⟩ := h
  exact ⟨h1, g1, c1, g2, c2, v, h2.blk, h2.now, h2.sure, h2.wait, h2.ne, hs _ h2.o0 (blk_lt h2.blk), hs _ h2.o1 (own_lt h2.now _ rfl), hs _ h2.o2 (own_lt h2.sure _ rfl), fun g hg => hs _ (h2.o3 g hg) (own_lt h2.wait _ hg)⟩
theorem Disk.below {W W' : World} {own : Nat → Prop} {b n B : Nat} {s : St} (h : Disk W own b n s) (hb : Below B W W') (hB : W.heap.size ≤ B) : Disk W' own b n s := h.keep (fun k _ hl => hb.block k (by omega))
theorem Disk.frame {W W' : World} {own own' : Nat → Prop} {b n : Nat} {s : St} (h : Disk W own b n s) (hf : Frame own' W W') (hd : ∀ k, own k → ¬ own' k) : Disk W' own b n s := h.keep (fun k ho hl => hf.block k hl (hd k ho))
theorem Disk.ok {W : World} {own : Nat → Prop} {b n : Nat} {s : St} (h : Disk W own b n s) : s.Ok n := h.1
theorem Disk.lt {W : World} {own : Nat → Prop} {b n : Nat} {s : St} (h : Disk W own b n s) : b < W.heap.size := by
  obtain ⟨_, _, _, _, _, _, h⟩ := h
  exact blk_lt h.blk
theorem DiskAt.cells {W : World} {own : Nat → Prop} {b n g1 c1 g2 c2 : Nat} {s : St} {v : Value} (h : DiskAt W own b n s g1 c1 g2 c2 v) :
    W.cell? ⟨b, 0, none⟩ = some (.slice (some ⟨g1, 0, none⟩) n c1) ∧ W.cell? ⟨b, 1, none⟩ = some (.slice (some ⟨g2, 0, none⟩) n c2) ∧ W.cell? ⟨b, 2, none⟩ = some v ∧ W.cell? ⟨b, 3, none⟩ = some (.int .i64 s.limit) ∧ W.cell? ⟨b, 4, none⟩ = some (.int .i64 s.left) ∧ W.cell? ⟨b, 5, none⟩ = some (.bool s.dark) :=
  ⟨(blk_cell h.blk 0).trans rfl, (blk_cell h.blk 1).trans rfl, (blk_cell h.blk 2).trans rfl, (blk_cell h.blk 3).trans rfl, (blk_cell h.blk 4).trans rfl, (blk_cell h.blk 5).trans rfl⟩
/-- A field of the disk's own is stored: the rest stands. -/
theorem DiskAt.field {W : World} {own : Nat → Prop} {b n g1 c1 g2 c2 : Nat} {s s' : St} {v : Value} (h : DiskAt W own b n s g1 c1 g2 c2 v) (j : Nat) (u : Value)
    (hs : #[.slice (some ⟨g1, 0, none⟩) n c1, .slice (some ⟨g2, 0, none⟩) n c2, v, .int .i64 s.limit, .int .i64 s.left, .bool s.dark].setIfInBounds j u = #[.slice (some ⟨g1, 0, none⟩) n c1, .slice (some ⟨g2, 0, none⟩) n c2, v, .int .i64 s'.limit, .int .i64 s'.left, .bool s'.dark])
    (e1 : s'.now = s.now) (e2 : s'.sure = s.sure) (e3 : s'.wait = s.wait) : DiskAt (W.setCell ⟨b, j, none⟩ u) own b n s' g1 c1 g2 c2 v := by
  have hne : ∀ g, v.ownBlock = some g → g ≠ b := own_ne h.wait h.blk (by decide)
  have h1 : g1 ≠ b := own_ne h.now h.blk (by decide) _ rfl
  have h2 : g2 ≠ b := own_ne h.sure h.blk (by decide) _ rfl
  refine ⟨by rw [blk_put h.blk, hs], ?_, ?_, ?_, h.ne, h.o0, h.o1, h.o2, h.o3⟩
  · rw [e1]; exact own_keep h.now (fun g hg _ => Below.heap_setCell _ _ _ _ (ob_eq hg ▸ h1))
  · rw [e2]; exact own_keep h.sure (fun g hg _ => Below.heap_setCell _ _ _ _ (ob_eq hg ▸ h2))
  · rw [e3]; exact own_keep h.wait (fun g hg _ => Below.heap_setCell _ _ _ _ (hne g hg))
end Go.Proofs.Ytfhnhkjbfaieiaa.Bl
