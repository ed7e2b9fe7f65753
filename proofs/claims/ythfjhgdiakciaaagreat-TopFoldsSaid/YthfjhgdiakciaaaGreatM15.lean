/- A region that draws its order, over a condition on the world that holds behind every operation: as QStay has it, but where two operations may come next both ways are walked. Condition: the Bool 'Region.planT'. -/
import Derived.Test.YthfjhgdiakciaaaGreatM04
import Derived.Test.YthfjhgdiakciaaaGreatM14
namespace Go
open Go.RowKit
/-- A plan: what yields in every world of S (0), in every world (1), the one that may come next (2), two that may come next. -/
inductive PT where
 | nil : PT
 | cons (k i : Nat) (t : PT) : PT
 | two (i j : Nat) (t u : PT) : PT
inductive PTO where
 | nil : PTO
 | cons (k i : Nat) (o : Oper) (t : PTO) : PTO
 | two (i j : Nat) (oi oj : Oper) (t u : PTO) : PTO
def PT.tag (ops : Array Oper) : PT → PTO
 | .nil => .nil
 | .cons k i t => match ops[i]? with
  | some o => .cons k i o (PT.tag ops t)
  | none => .nil
 | .two i j t u => match ops[i]? with
  | some oi => match ops[j]? with
   | some oj => .two i j oi oj (PT.tag ops t) (PT.tag ops u)
   | none => .nil
  | none => .nil
def PT.depth : PT → Nat
 | .nil => 0
 | .cons _ _ t => t.depth + 1
 | .two _ _ t _ => t.depth + 1
section
variable {P : Program} {ops : Array Oper} {Q : Exit → Act → World → Prop} {md : Region.Mode} {S : World → Prop}
def wpT (P : Program) (ops : Array Oper) (Q : Exit → Act → World → Prop) (S : World → Prop) : PTO → Act → World → Prop
 | .nil, a, w => Q .normal a w
 | .cons 0 _ o rest, a, w => if Region.wanted o (yielded ops a.tmps) = true then ∃ v, (∀ w', S w' → (execOp a.eval o).run P w' = .ok (.value v) w') ∧ wpT P ops Q S rest (a.put o.dst v) w else wpT P ops Q S rest (a.put o.dst undef) w
 | .cons 1 _ o rest, a, w => if Region.wanted o (yielded ops a.tmps) = true then ∃ v, (∀ w', (execOp a.eval o).run P w' = .ok (.value v) w') ∧ wpT P ops Q S rest (a.put o.dst v) w else wpT P ops Q S rest (a.put o.dst undef) w
 | .cons _ _ o rest, a, w => if Region.wanted o (yielded ops a.tmps) = true then Oper.wp P o a w (fun a' w' => S w' ∧ wpT P ops Q S rest a' w') Q else wpT P ops Q S rest (a.put o.dst undef) w
 | .two _ _ oi oj t u, a, w => (if Region.wanted oi (yielded ops a.tmps) = true then Oper.wp P oi a w (fun a' w' => S w' ∧ wpT P ops Q S t a' w') Q else wpT P ops Q S t (a.put oi.dst undef) w) ∧
   (if Region.wanted oj (yielded ops a.tmps) = true then Oper.wp P oj a w (fun a' w' => S w' ∧ wpT P ops Q S u a' w') Q else wpT P ops Q S u (a.put oj.dst undef) w)
def Region.planT (md : Region.Mode) (ops : Array Oper) : PT → Array Bool → Bool
 | .nil, listed => (Region.ready md ops listed).isEmpty
 | .cons 0 i rest, listed => decide (i < ops.size) && (Region.ready md ops listed).contains i && Region.free md ops listed i && Region.planT md ops rest (listed.setIfInBounds i true)
 | .cons 1 i rest, listed => decide (i < ops.size) && (Region.ready md ops listed).contains i && Region.free md ops listed i && Region.planT md ops rest (listed.setIfInBounds i true)
 | .cons _ i rest, listed => decide (i < ops.size) && decide (Region.ready md ops listed = [i]) && Region.planT md ops rest (listed.setIfInBounds i true)
 | .two i j t u, listed => decide (i < ops.size) && decide (j < ops.size) && decide (t.depth = u.depth) && decide (Region.ready md ops listed = [i, j]) && Region.planT md ops t (listed.setIfInBounds i true) && Region.planT md ops u (listed.setIfInBounds j true)
theorem wpStay_of_T (hsel : Region.noSelect ops = true) (hQ : ∀ c a d v w, Q (.panic c) (Act.put a d v) w → Q (.panic c) a w) :
  ∀ (t : PT) (listed : Array Bool) (a : Act) (w : World), Region.planT md ops t listed = true → S w → wpT P ops Q S (t.tag ops) a w → wpStay P md ops Q S t.depth listed a w := by
 have one : ∀ (i : Nat) (o : Oper) (rest : PT), ops[i]? = some o → (∀ (listed : Array Bool) (a : Act) (w : World), Region.planT md ops rest listed = true → S w → wpT P ops Q S (rest.tag ops) a w → wpStay P md ops Q S rest.depth listed a w) →
   ∀ (listed : Array Bool) (a : Act) (w : World), Region.planT md ops rest (listed.setIfInBounds i true) = true → S w →
    (if Region.wanted o (yielded ops a.tmps) = true then Oper.wp P o a w (fun a' w' => S w' ∧ wpT P ops Q S (rest.tag ops) a' w') Q else wpT P ops Q S (rest.tag ops) (a.put o.dst undef) w) →
    wpOp P ops Q i (fun a' w' => S w' ∧ wpStay P md ops Q S rest.depth (listed.setIfInBounds i true) a' w') a w := by
  intro i o rest hi ih listed a w hB hS h
  have key : ∀ a' w', (S w' ∧ wpT P ops Q S (rest.tag ops) a' w') → S w' ∧ wpStay P md ops Q S rest.depth (listed.setIfInBounds i true) a' w' := fun a' w' h' => ⟨h'.1, ih _ _ _ hB h'.1 h'.2⟩
  refine wpOp_mono key ?_
  unfold wpOp
  rw [hi]
  show if Region.wanted o (yielded ops a.tmps) = true then _ else _
  by_cases hwt : Region.wanted o (yielded ops a.tmps) = true
  ·rw [if_pos hwt] at h ⊢; exact .inl h
  ·rw [if_neg hwt] at h ⊢; exact ⟨hS, h⟩
 intro t
 induction t with
 | nil => exact fun listed a w hB _ h => ⟨by simpa [Region.planT] using hB, h⟩
 | cons k i rest ih =>
  intro listed a w hB hS h
  have hi : ∃ o, ops[i]? = some o := by
   match k with
   | 0 => simp only [Region.planT, Bool.and_eq_true, decide_eq_true_eq] at hB; exact ⟨_, Array.getElem?_eq_getElem hB.1.1.1⟩
   | 1 => simp only [Region.planT, Bool.and_eq_true, decide_eq_true_eq] at hB; exact ⟨_, Array.getElem?_eq_getElem hB.1.1.1⟩
   | k + 2 => simp only [Region.planT, Bool.and_eq_true, decide_eq_true_eq] at hB; exact ⟨_, Array.getElem?_eq_getElem hB.1.1⟩
  obtain ⟨o, hi⟩ := hi
  have htag : (PT.cons k i rest).tag ops = .cons k i o (rest.tag ops) := by simp only [PT.tag, hi]
  rw [htag] at h
  match k with
  | 0 =>
   simp only [Region.planT, Bool.and_eq_true] at hB
   obtain ⟨⟨⟨_, hr⟩, hf⟩, hB'⟩ := hB
   have hr' : i ∈ Region.ready md ops listed := by simpa using hr
   simp only [wpT] at h
   by_cases hwt : Region.wanted o (yielded ops a.tmps) = true
   ·rw [if_pos hwt] at h
    obtain ⟨v, hv, hK⟩ := h
    exact wpStay_first hi (Region.noSelect_spec hsel) (fun c a w => hQ c a _ _ w) _ listed a w (Region.free_spec hi hf) hr' (.inl ⟨hwt, hv⟩) hS (ih _ _ _ hB' hS hK)
   ·rw [if_neg hwt] at h
    exact wpStay_first hi (Region.noSelect_spec hsel) (fun c a w => hQ c a _ _ w) _ listed a w (Region.free_spec hi hf) hr' (.inr ⟨by simpa using hwt, rfl⟩) hS (ih _ _ _ hB' hS h)
  | 1 =>
   simp only [Region.planT, Bool.and_eq_true] at hB
   obtain ⟨⟨⟨_, hr⟩, hf⟩, hB'⟩ := hB
   have hr' : i ∈ Region.ready md ops listed := by simpa using hr
   simp only [wpT] at h
   by_cases hwt : Region.wanted o (yielded ops a.tmps) = true
   ·rw [if_pos hwt] at h
    obtain ⟨v, hv, hK⟩ := h
    exact wpStay_first hi (Region.noSelect_spec hsel) (fun c a w => hQ c a _ _ w) _ listed a w (Region.free_spec hi hf) hr' (.inl ⟨hwt, fun w _ => hv w⟩) hS (ih _ _ _ hB' hS hK)
   ·rw [if_neg hwt] at h
    exact wpStay_first hi (Region.noSelect_spec hsel) (fun c a w => hQ c a _ _ w) _ listed a w (Region.free_spec hi hf) hr' (.inr ⟨by simpa using hwt, rfl⟩) hS (ih _ _ _ hB' hS h)
  | k + 2 =>
   simp only [Region.planT, Bool.and_eq_true, decide_eq_true_eq] at hB
   obtain ⟨⟨_, hr⟩, hB'⟩ := hB
   refine ⟨fun h0 => (by rw [h0] at hr; cases hr), fun j hj => ?_⟩
   rw [hr] at hj
   have hji : j = i := by simpa using hj
   subst hji
   exact one j o rest hi ih listed a w hB' hS h
 | two i j t u iht ihu =>
  intro listed a w hB hS h
  simp only [Region.planT, Bool.and_eq_true, decide_eq_true_eq] at hB
  obtain ⟨⟨⟨⟨⟨hi, hj⟩, hd⟩, hr⟩, hBt⟩, hBu⟩ := hB
  have hi' := Array.getElem?_eq_getElem hi
  have hj' := Array.getElem?_eq_getElem hj
  have htag : (PT.two i j t u).tag ops = .two i j ops[i] ops[j] (t.tag ops) (u.tag ops) := by simp only [PT.tag, hi', hj']
  rw [htag] at h
  obtain ⟨h1, h2⟩ := h
  refine ⟨fun h0 => (by rw [h0] at hr; cases hr), fun k hk => ?_⟩
  rw [hr] at hk
  rcases List.mem_cons.1 hk with rfl | hk
  ·exact one k _ t hi' iht listed a w hBt hS h1
  ·obtain rfl : k = j := by simpa using hk
   have := one k _ u hj' ihu listed a w hBu hS h2
   rw [← hd] at this
   exact this
theorem wp_region_plan_tree {id : Nat} {a : Act} {w : World} (S : World → Prop) (t : PT) (hm : P.follows .mixedOrders = true) (hsel : Region.noSelect ops = true)
  (hl : (t.depth == ops.size) = true) (hB : Region.planT .any ops t (Array.replicate ops.size false) = true)
  (hQ0 : ∀ c a n v w, Q (.panic c) (Act.put a (some n) v) w → Q (.panic c) a w) (hS : S w.drew) (h : wpT P ops Q S (t.tag ops) a w.drew) : (Code.region id ops true).wp P Q a w := by
 have hQ : ∀ c a d v w, Q (.panic c) (Act.put a d v) w → Q (.panic c) a w := fun c a d v w h => by
  cases d with
  | none => exact h
  | some n => exact hQ0 c a n v w h
 have hl' : t.depth = ops.size := by simpa using hl
 refine wp_region_any hm (wpAny_of_stay (S := S) _ _ _ _ ?_)
 have := wpStay_of_T (md := .any) hsel hQ t _ a w.drew hB hS h
 rwa [hl'] at this
theorem wpT_nil {a : Act} {w : World} (h : Q .normal a w) : wpT P ops Q S .nil a w := h
theorem wpT_take {i : Nat} {o : Oper} {rest : PTO} {a : Act} {w : World}
  (h : ∀ K : Act → Prop, (∀ a, wpT P ops Q S rest a w → K a) → if Region.wanted o (yielded ops a.tmps) = true then ∃ v, (∀ w', S w' → (execOp a.eval o).run P w' = .ok (.value v) w') ∧ K (a.put o.dst v) else K (a.put o.dst undef)) : wpT P ops Q S (.cons 0 i o rest) a w :=
 h _ (fun _ h => h)
theorem wpT_sure {i : Nat} {o : Oper} {rest : PTO} {a : Act} {w : World}
  (h : ∀ K : Act → Prop, (∀ a, wpT P ops Q S rest a w → K a) → if Region.wanted o (yielded ops a.tmps) = true then ∃ v, (∀ w', (execOp a.eval o).run P w' = .ok (.value v) w') ∧ K (a.put o.dst v) else K (a.put o.dst undef)) : wpT P ops Q S (.cons 1 i o rest) a w :=
 h _ (fun _ h => h)
theorem wpT_next {i : Nat} {o : Oper} {rest : PTO} {a : Act} {w : World}
  (h : ∀ K : Act → World → Prop, (∀ a w, S w → wpT P ops Q S rest a w → K a w) → if Region.wanted o (yielded ops a.tmps) = true then Oper.wp P o a w K Q else wpT P ops Q S rest (a.put o.dst undef) w) : wpT P ops Q S (.cons 2 i o rest) a w :=
 h _ (fun _ _ h1 h2 => ⟨h1, h2⟩)
/-- Two ways: each as one that may come next. -/
theorem wpT_two {i j : Nat} {oi oj : Oper} {t u : PTO} {a : Act} {w : World} (h1 : wpT P ops Q S (.cons 2 i oi t) a w) (h2 : wpT P ops Q S (.cons 2 j oj u) a w) : wpT P ops Q S (.two i j oi oj t u) a w := ⟨h1, h2⟩
end
end Go
/- May an entry come now, by its kind (ledger.fits)? An intent, a result. Condition: the ledger lies in memory as it is told; the entry is the order's next one. -/
namespace Go.Proofs.YthfjhgdiakciaaaGreat.Bl
open Go.RowKit Go.Maps
set_option linter.unusedVariables false
set_option linter.unusedSimpArgs false
/-- An order's cells. -/
structure OrCells (w : World) (g o : Nat) (ad : Option Addr) (cd : Nat) (s : Sg) : Prop where
 data : w.cell? ⟨g, o + 2, none⟩ = some (.slice ad 1 cd)
 sg : w.rangeAt g (o + 3) (sgC s)
theorem OrAt.cells {W : World} {own : Nat → Prop} {tl : List Value} {n g o : Nat} {x : Or} {c : List Value} (h : OrAt W own tl n x c) (hr : W.rangeAt g o c) : ∃ ad cd, OrCells W g o ad cd x.sg ∧ Bytes W ad [(x.pl : Int)] := by
 obtain ⟨ak, ck, ad, cd, rfl, _, h2, _, _⟩ := h
 refine ⟨ad, cd, ⟨hr 2 _ rfl, fun j v hv => ?_⟩, h2⟩
 rw [Nat.add_assoc]
 refine hr (3 + j) v ?_
 have hj : j < 7 := (List.getElem?_eq_some_iff.1 hv).1
 rcases (show j = 0 ∨ j = 1 ∨ j = 2 ∨ j = 3 ∨ j = 4 ∨ j = 5 ∨ j = 6 by omega) with rfl | rfl | rfl | rfl | rfl | rfl | rfl <;> exact hv
theorem OrCells.keep {w w' : World} {g o : Nat} {ad : Option Addr} {cd : Nat} {s : Sg} (h : OrCells w g o ad cd s) (hk : w'.heap[g]? = w.heap[g]?) : OrCells w' g o ad cd s :=
 ⟨by rw [World.cell?_of_block (w := w) (a := ⟨g, o + 2, none⟩) hk]; exact h.data, range_heap h.sg hk⟩
/-- The ledger's block, the entry's box, an order's cells. -/
def FS (lb g b3 o : Nat) (LBC EC : Array Value) (oad : Option Addr) (ocd : Nat) (s : Sg) (w : World) : Prop :=
 w.heap[lb]? = some (.cells LBC 93 (0, 0)) ∧ w.heap[b3]? = some (.cells EC 41 (0, 0)) ∧ OrCells w g o oad ocd s ∧ g < w.heap.size
theorem FS.keep {lb g b3 o : Nat} {LBC EC : Array Value} {oad : Option Addr} {ocd : Nat} {s : Sg} {w w' : World} (h : FS lb g b3 o LBC EC oad ocd s w) (hb : Below w.heap.size w w') : FS lb g b3 o LBC EC oad ocd s w' :=
 ⟨(hb.block lb (blk_lt h.1)).trans h.1, (hb.block b3 (blk_lt h.2.1)).trans h.2.1, h.2.2.1.keep (hb.block g h.2.2.2), Nat.lt_of_lt_of_le h.2.2.2 hb.size⟩
theorem FS.far {lb g b3 o : Nat} {LBC EC : Array Value} {oad : Option Addr} {ocd : Nat} {s : Sg} {w w' : World} (h : FS lb g b3 o LBC EC oad ocd s w) {b : Nat} {B : Nat} (hB : Below B w w') (hk : ∀ k, k ≠ b → w'.heap[k]? = w.heap[k]?) (h1 : lb ≠ b) (h2 : b3 ≠ b) (h3 : g ≠ b) : FS lb g b3 o LBC EC oad ocd s w' :=
 ⟨(hk lb h1).trans h.1, (hk b3 h2).trans h.2.1, h.2.2.1.keep (hk g h3), Nat.lt_of_lt_of_le h.2.2.2 hB.size⟩
theorem FS.alloc {lb g b3 o : Nat} {LBC EC : Array Value} {oad : Option Addr} {ocd : Nat} {s : Sg} {w : World} (h : FS lb g b3 o LBC EC oad ocd s w) (x : Obj) : FS lb g b3 o LBC EC oad ocd s (w.alloc x) := h.keep ((Below.refl _ w).alloc (Nat.le_refl _) x)
theorem wp_storeC {o : Oper} {a : Act} {w : World} {K : Act → World → Prop} {Q : Exit → Act → World → Prop} (T : TypeId) (x y : Operand) (ho : o.op = .store T x y) (b T' : Nat) (cs : List Value) (z : Array Value)
  (hx : a.eval x = .pointer (some ⟨b, 0, none⟩)) (hy : a.eval y = .agg cs.toArray) (h0 : w.heap[b]? = some (.cells z T' (0, 0))) (hz : cs.length = z.size) (hsz : (Tryz.prog.info? T).map (·.size) = some cs.length) (h1 : ∀ v ∈ cs, v.oneCell' = true)
  (h : ∀ w1 : World, w1.heap[b]? = some (.cells cs.toArray T' (0, 0)) → (∀ B, B ≤ b → Below B w w1) → w1.heap.size = w.heap.size → (∀ k, k ≠ b → w1.heap[k]? = w.heap[k]?) → K (a.put o.dst undef) w1) : Oper.wp Tryz.prog o a w K Q :=
 wp_store_mid T x y ho b 0 cs.toArray hx hy (there_block h0 0 _ (by rw [List.size_toArray, hz]; omega)) (by rw [List.size_toArray]; exact hsz) (all_oneCell_toArray h1) (h _ (row_over h0 hz) (fun B hB => setCells_below _ hB) (setCells_size _ _ _ _) (fun k hk => setCells_far _ _ _ _ hk))
set_option maxHeartbeats 4000000 in
set_option maxRecDepth 100000 in
theorem fits_intent {W : World} {OP : Nat → Prop} {lb mb g n c i : Nat} {pv : Value} {last tk nt ep : Int} {ps : List (List Stp)} (hb : W.heap[lb]? = some (.cells #[pv, .slice (some ⟨g, 0, none⟩) n c, .map (some mb), .int .u64 last, .int .u32 ep, .int .i64 1, .int .i64 tk, .int .i64 nt] 93 (0, 0))) (hR : RulesAt W OP pv ps) (hps : ps.length ≤ 8) (hn : n < 500) (hi : i < n)
  {oad : Option Addr} {ocd : Nat} {s : Sg} (hoc : OrCells W g (i * 11) oad ocd s) (hg : g < W.heap.size) {dd : Nat} (hd : Bytes W oad [(dd : Int)]) {p : List Stp} (hp : ps[dd]? = some p) (hpo : PlanOk p) (hs : SgOk p s) {d : Dn} (hnx : nextS s = some d)
  {ak ad : Option Addr} {ck cd : Nat} {lsn : Int} :
  Calls Tryz.prog 80 #[.pointer (some ⟨lb, 0, none⟩), .agg #[.int .i64 3, .int .u64 lsn, .int .u32 1, .int .u32 ((i : Int) + 1), .int .i64 d.st, .bool d.undo, .int .i64 d.tr, .int .i64 0, .int .u64 0, .slice ak 0 ck, .slice ad 0 cd]] W fun e W' => e = .returned (.bool true) ∧ Below W.heap.size W W' := by
 have hlb := blk_lt hb
 have hbox : (W.alloc (.cells #[.int .i64 3, .int .u64 lsn, .int .u32 1, .int .u32 ((i : Int) + 1), .int .i64 d.st, .bool d.undo, .int .i64 d.tr, .int .i64 0, .int .u64 0, .slice ak 0 ck, .slice ad 0 cd] 41)).heap[W.heap.size]? = some (.cells #[.int .i64 3, .int .u64 lsn, .int .u32 1, .int .u32 ((i : Int) + 1), .int .i64 d.st, .bool d.undo, .int .i64 d.tr, .int .i64 0, .int .u64 0, .slice ak 0 ck, .slice ad 0 cd] 41 (0, 0)) := blk_new W _
 have B0 : As (Below W.heap.size W (W.alloc (.cells #[.int .i64 3, .int .u64 lsn, .int .u32 1, .int .u32 ((i : Int) + 1), .int .i64 d.st, .bool d.undo, .int .i64 d.tr, .int .i64 0, .int .u64 0, .slice ak 0 ck, .slice ad 0 cd] 41))) := ⟨(Below.refl _ W).alloc (Nat.le_refl _) _⟩
 have HAT := As.mk (at_some (W := W.alloc (.cells #[.int .i64 3, .int .u64 lsn, .int .u32 1, .int .u32 ((i : Int) + 1), .int .i64 d.st, .bool d.undo, .int .i64 d.tr, .int .i64 0, .int .u64 0, .slice ak 0 ck, .slice ad 0 cd] 41)) (lb := lb) (g := g) (n := n) (c := c) (k := i) ((blk_cell (blk_old hb _) 1).trans rfl) (by omega) hi)
 have hb0 := blk_old hb (.cells #[.int .i64 3, .int .u64 lsn, .int .u32 1, .int .u32 ((i : Int) + 1), .int .i64 d.st, .bool d.undo, .int .i64 d.tr, .int .i64 0, .int .u64 0, .slice ak 0 ck, .slice ad 0 cd] 41)
 have HR : As (∀ w, Below W.heap.size W w → RulesAt w OP pv ps) := ⟨fun w hw => hR.keep (fun k _ hk => hw.block k hk) hw.size⟩
 have HD : As (∀ w, Below W.heap.size W w → Bytes w oad [(dd : Int)]) := ⟨fun w hw => hd.below hw (Nat.le_refl _)⟩
 have hoc0 := hoc.keep (w' := W.alloc (.cells #[.int .i64 3, .int .u64 lsn, .int .u32 1, .int .u32 ((i : Int) + 1), .int .i64 d.st, .bool d.undo, .int .i64 d.tr, .int .i64 0, .int .u64 0, .slice ak 0 ck, .slice ad 0 cd] 41)) (Below.heap_alloc _ _ _ hg)
 have HP := As.mk hp
 have HPO := As.mk hpo
 have HS := As.mk hs
 have HNX := As.mk hnx
 clear hb hR hd hp hpo hs hnx hoc
 go_enter Tryz.func80, Tryz.ntmps80
 go_wp2_with fail
 refine HAT.out.mono ?_
 rintro e w1 ⟨rfl, rfl⟩
 obtain ⟨k0, k1, k2, k3, k4, k5, k6, k7, k8, k9, k10⟩ := cells11 hbox
 obtain ⟨b3, hb3⟩ : ∃ b3, b3 = W.heap.size := ⟨_, rfl⟩
 rw [← hb3] at hbox k0 k1 k2 k3 k4 k5 k6 k7 k8 k9 k10 ⊢
 have H0 : As (FS lb g b3 (i * 11) #[pv, .slice (some ⟨g, 0, none⟩) n c, .map (some mb), .int .u64 last, .int .u32 ep, .int .i64 1, .int .i64 tk, .int .i64 nt] #[.int .i64 3, .int .u64 lsn, .int .u32 1, .int .u32 ((i : Int) + 1), .int .i64 d.st, .bool d.undo, .int .i64 d.tr, .int .i64 0, .int .u64 0, .slice ak 0 ck, .slice ad 0 cd] oad ocd s (W.alloc (.cells #[.int .i64 3, .int .u64 lsn, .int .u32 1, .int .u32 ((i : Int) + 1), .int .i64 d.st, .bool d.undo, .int .i64 d.tr, .int .i64 0, .int .u64 0, .slice ak 0 ck, .slice ad 0 cd] 41))) := ⟨hb0, hbox, hoc0, by simp; omega⟩
 have HLT : As (lb < W.heap.size ∧ g < W.heap.size ∧ b3 = W.heap.size) := ⟨hlb, hg, hb3⟩
 clear hb0 hoc0 hbox
 generalize W.alloc (.cells #[.int .i64 3, .int .u64 lsn, .int .u32 1, .int .u32 ((i : Int) + 1), .int .i64 d.st, .bool d.undo, .int .i64 d.tr, .int .i64 0, .int .u64 0, .slice ak 0 ck, .slice ad 0 cd] 41) = w0 at *
 clear HAT hb3
 have hs0 := B0.out.size
 go_upto_region 9 with fail
 clear k1 k2 k3 k4 k5 k6 k7 k8 k9 k10
 refine wp_region_plan_tree (FS lb g b3 (i * 11) #[pv, .slice (some ⟨g, 0, none⟩) n c, .map (some mb), .int .u64 last, .int .u32 ep, .int .i64 1, .int .i64 tk, .int .i64 nt] #[.int .i64 3, .int .u64 lsn, .int .u32 1, .int .u32 ((i : Int) + 1), .int .i64 d.st, .bool d.undo, .int .i64 d.tr, .int .i64 0, .int .u64 0, .slice ak 0 ck, .slice ad 0 cd] oad ocd s) (.cons 1 0 (.cons 1 1 (.cons 1 2 (.cons 0 3 (.cons 1 4 (.cons 1 5 (.cons 1 6 (.cons 1 7 (.cons 0 8 (.cons 1 10 (.cons 1 11 (.cons 1 12 (.cons 1 13 (.cons 0 14 (.two 9 19 (.two 15 19 (.cons 1 16 (.cons 1 17 (.cons 1 18 (.cons 2 19 (.cons 2 20 (.cons 2 21 .nil)))))) (.cons 2 15 (.cons 1 16 (.cons 1 17 (.cons 1 18 (.cons 2 20 (.cons 2 21 .nil))))))) (.cons 2 9 (.cons 2 15 (.cons 1 16 (.cons 1 17 (.cons 1 18 (.cons 2 20 (.cons 2 21 .nil)))))))))))))))))))))) (by kernel_rfl) (by kernel_rfl) (by kernel_rfl) (by kernel_rfl) (fun _ _ _ _ _ h => h) (H0.out.keep (w' := w0.drew) ((Below.refl _ w0).drew)) ?_
 simp only [PT.tag, List.getElem?_toArray, List.getElem?_cons_succ, List.getElem?_cons_zero]
 iterate 3 (with_reducible refine wpT_sure (fun K hK => ?_); go_simp; with_reducible refine hK _ ?_; clear hK K)
 refine wpT_take (fun K hK => ?_)
 rw [if_pos (by rfl)]
 refine ⟨.agg #[pv], fun w' hw' => exec_load_mid _ _ _ 85 (.tmp 68) rfl lb 0 rfl [pv] _ (range_one hw'.1 0 pv rfl) Tryz.underlying85 rfl size85, hK _ ?_⟩
 clear hK K
 iterate 4 (with_reducible refine wpT_sure (fun K hK => ?_); go_simp; with_reducible refine hK _ ?_; clear hK K)
 refine wpT_take (fun K hK => ?_)
 rw [if_pos (by rfl)]
 apply Exists.intro
 refine ⟨fun w' hw' => ?_, hK _ ?_⟩
 ·have j0 := hw'.2.2.1.data
  go_simp
  rfl
 clear hK K
 iterate 4 (with_reducible refine wpT_sure (fun K hK => ?_); go_simp; with_reducible refine hK _ ?_; clear hK K)
 refine wpT_take (fun K hK => ?_)
 rw [if_pos (by rfl)]
 refine ⟨.agg (sgC s).toArray, fun w' hw' => exec_load_mid _ _ _ 116 (.tmp 79) rfl g (i * 11 + 3) rfl (sgC s) _ hw'.2.2.1.sg Tryz.underlying116 rfl size116, hK _ ?_⟩
 clear hK K
 have Bd := As.mk B0.out.drew
 have Hd := As.mk (H0.out.keep (w' := w0.drew) ((Below.refl _ w0).drew))
 have hsd : W.heap.size ≤ w0.drew.heap.size := hs0
 generalize w0.drew = wd at *
 refine wpT_two ?_ ?_
 ·with_reducible refine wpT_next (fun K hK => ?_)
  go_simp
  refine (rulesOf_a (HR.out _ Bd.out) hps HP.out (HD.out _ Bd.out) ocd).mono ?_
  rintro e w1 ⟨⟨v, rfl, hv⟩, q1⟩
  have HV := As.mk hv
  have B1 : As (Below W.heap.size W w1) := ⟨Bd.out.trans (q1.mono hsd)⟩
  have H1 := As.mk (Hd.out.keep q1)
  have hs1 := B1.out.size
  refine hK _ _ H1.out ?_
  clear hK K q1 hv
  refine wpT_two ?_ ?_
  ·with_reducible refine wpT_next (fun K hK => ?_)
   go_simp
   have HSN := snext_a HV.out HPO.out HS.out
   rw [HNX.out] at HSN
   refine HSN.mono ?_
   clear HSN
   rintro e w2 ⟨rfl, q1⟩
   have B2 : As (Below W.heap.size W w2) := ⟨B1.out.trans (q1.mono hs1)⟩
   have H2 := As.mk (H1.out.keep q1)
   have hs2 := B2.out.size
   refine hK _ _ H2.out ?_
   clear hK K q1
   unfold nextV dnC
   iterate 3 (with_reducible refine wpT_sure (fun K hK => ?_); go_simp; with_reducible refine hK _ ?_; clear hK K)
   with_reducible refine wpT_next (fun K hK => ?_)
   go_simp
   have BB := B2.out.alloc hs2 (.cells #[.int .i64 0, .bool false, .int .i64 0] 49)
   have HH := H2.out.alloc (.cells #[.int .i64 0, .bool false, .int .i64 0] 49)
   obtain ⟨b8, hb8⟩ : ∃ b8, b8 = w2.heap.size := ⟨_, rfl⟩
   have A4 : As ((w2.alloc (.cells #[.int .i64 0, .bool false, .int .i64 0] 49)).heap[b8]? = some (.cells #[.int .i64 0, .bool false, .int .i64 0] 49 (0, 0))) := ⟨by rw [hb8]; exact blk_new w2 _⟩
   have HB8 : As (W.heap.size < b8) := ⟨by have h1 := blk_lt H2.out.2.1; have h2 := HLT.out.2.2; omega⟩
   rw [← hb8]
   refine hK _ _ HH ?_
   clear hK K hb8
   generalize w2.alloc (.cells #[.int .i64 0, .bool false, .int .i64 0] 49) = w4 at *
   have B4 := As.mk BB
   have H4 := As.mk HH
   have hs4 := BB.size
   clear BB HH
   with_reducible refine wpT_next (fun K hK => ?_)
   rw [if_pos (by rfl)]
   refine wp_storeC 49 (.tmp 8) (.tmp 82) rfl b8 49 [.int .i64 d.st, .bool d.undo, .int .i64 d.tr] _ rfl rfl A4.out rfl size49 (dnC_one d) ?_
   intro w5 q1 q2 q3 q4
   have B5 : As (Below W.heap.size W w5) := ⟨B4.out.trans (q2 _ (by have := HB8.out; omega))⟩
   have H5 := As.mk (H4.out.far (q2 0 (Nat.zero_le _)) q4 (by have := HB8.out; have := HLT.out; omega) (by have := HB8.out; have := HLT.out; omega) (by have := HB8.out; have := HLT.out; omega))
   have A5 := As.mk q1
   refine hK _ _ H5.out ?_
   clear hK K q1 q2 q3 q4
   with_reducible refine wpT_next (fun K hK => ?_)
   go_simp
   refine hK _ _ H5.out ?_
   clear hK K
   refine wpT_nil ?_
   obtain ⟨k0, k1, k2, k3, k4, k5, k6, k7, k8, k9, k10⟩ := cells11 H5.out.2.1
   have l0 := (blk_cell A5.out 0).trans rfl
   have l1 := (blk_cell A5.out 1).trans rfl
   have l2 := (blk_cell A5.out 2).trans rfl
   go_wp2_with fail
   go_ret
   exact ⟨rfl, B5.out⟩
  ·with_reducible refine wpT_next (fun K hK => ?_)
   go_simp
   have BB := B1.out.alloc hs1 (.cells #[.int .i64 0, .bool false, .int .i64 0] 49)
   have HH := H1.out.alloc (.cells #[.int .i64 0, .bool false, .int .i64 0] 49)
   obtain ⟨b8, hb8⟩ : ∃ b8, b8 = w1.heap.size := ⟨_, rfl⟩
   have A6 : As ((w1.alloc (.cells #[.int .i64 0, .bool false, .int .i64 0] 49)).heap[b8]? = some (.cells #[.int .i64 0, .bool false, .int .i64 0] 49 (0, 0))) := ⟨by rw [hb8]; exact blk_new w1 _⟩
   have HB8 : As (W.heap.size < b8) := ⟨by have h1 := blk_lt H1.out.2.1; have h2 := HLT.out.2.2; omega⟩
   have HV := As.mk (HV.out.keep (W' := w1.alloc (.cells #[.int .i64 0, .bool false, .int .i64 0] 49)) (fun k _ hk => Below.heap_alloc _ _ _ hk) (by simp))
   rw [← hb8]
   refine hK _ _ HH ?_
   clear hK K hb8
   generalize w1.alloc (.cells #[.int .i64 0, .bool false, .int .i64 0] 49) = w6 at *
   have B6 := As.mk BB
   have H6 := As.mk HH
   have hs6 := BB.size
   clear BB HH
   with_reducible refine wpT_next (fun K hK => ?_)
   go_simp
   have HSN := snext_a HV.out HPO.out HS.out
   rw [HNX.out] at HSN
   refine HSN.mono ?_
   clear HSN
   rintro e w7 ⟨rfl, q1⟩
   have B7 : As (Below W.heap.size W w7) := ⟨B6.out.trans (q1.mono hs6)⟩
   have H7 := As.mk (H6.out.keep q1)
   have A7 := As.mk ((q1.block b8 (blk_lt A6.out)).trans A6.out)
   have hs7 := B7.out.size
   refine hK _ _ H7.out ?_
   clear hK K q1
   unfold nextV dnC
   iterate 3 (with_reducible refine wpT_sure (fun K hK => ?_); go_simp; with_reducible refine hK _ ?_; clear hK K)
   with_reducible refine wpT_next (fun K hK => ?_)
   rw [if_pos (by rfl)]
   refine wp_storeC 49 (.tmp 8) (.tmp 82) rfl b8 49 [.int .i64 d.st, .bool d.undo, .int .i64 d.tr] _ rfl rfl A7.out rfl size49 (dnC_one d) ?_
   intro w9 q1 q2 q3 q4
   have B9 : As (Below W.heap.size W w9) := ⟨B7.out.trans (q2 _ (by have := HB8.out; omega))⟩
   have H9 := As.mk (H7.out.far (q2 0 (Nat.zero_le _)) q4 (by have := HB8.out; have := HLT.out; omega) (by have := HB8.out; have := HLT.out; omega) (by have := HB8.out; have := HLT.out; omega))
   have A9 := As.mk q1
   refine hK _ _ H9.out ?_
   clear hK K q1 q2 q3 q4
   with_reducible refine wpT_next (fun K hK => ?_)
   go_simp
   refine hK _ _ H9.out ?_
   clear hK K
   refine wpT_nil ?_
   obtain ⟨k0, k1, k2, k3, k4, k5, k6, k7, k8, k9, k10⟩ := cells11 H9.out.2.1
   have l0 := (blk_cell A9.out 0).trans rfl
   have l1 := (blk_cell A9.out 1).trans rfl
   have l2 := (blk_cell A9.out 2).trans rfl
   go_wp2_with fail
   go_ret
   exact ⟨rfl, B9.out⟩
 ·with_reducible refine wpT_next (fun K hK => ?_)
  go_simp
  have BB := Bd.out.alloc hsd (.cells #[.int .i64 0, .bool false, .int .i64 0] 49)
  have HH := Hd.out.alloc (.cells #[.int .i64 0, .bool false, .int .i64 0] 49)
  obtain ⟨b8, hb8⟩ : ∃ b8, b8 = wd.heap.size := ⟨_, rfl⟩
  have A10 : As ((wd.alloc (.cells #[.int .i64 0, .bool false, .int .i64 0] 49)).heap[b8]? = some (.cells #[.int .i64 0, .bool false, .int .i64 0] 49 (0, 0))) := ⟨by rw [hb8]; exact blk_new wd _⟩
  have HB8 : As (W.heap.size < b8) := ⟨by have h1 := blk_lt Hd.out.2.1; have h2 := HLT.out.2.2; omega⟩
  rw [← hb8]
  refine hK _ _ HH ?_
  clear hK K hb8
  generalize wd.alloc (.cells #[.int .i64 0, .bool false, .int .i64 0] 49) = w10 at *
  have B10 := As.mk BB
  have H10 := As.mk HH
  have hs10 := BB.size
  clear BB HH
  with_reducible refine wpT_next (fun K hK => ?_)
  go_simp
  refine (rulesOf_a (HR.out _ B10.out) hps HP.out (HD.out _ B10.out) ocd).mono ?_
  rintro e w11 ⟨⟨v, rfl, hv⟩, q1⟩
  have HV := As.mk hv
  have B11 : As (Below W.heap.size W w11) := ⟨B10.out.trans (q1.mono hs10)⟩
  have H11 := As.mk (H10.out.keep q1)
  have A11 := As.mk ((q1.block b8 (blk_lt A10.out)).trans A10.out)
  have hs11 := B11.out.size
  refine hK _ _ H11.out ?_
  clear hK K q1 hv
  with_reducible refine wpT_next (fun K hK => ?_)
  go_simp
  have HSN := snext_a HV.out HPO.out HS.out
  rw [HNX.out] at HSN
  refine HSN.mono ?_
  clear HSN
  rintro e w12 ⟨rfl, q1⟩
  have B12 : As (Below W.heap.size W w12) := ⟨B11.out.trans (q1.mono hs11)⟩
  have H12 := As.mk (H11.out.keep q1)
  have A12 := As.mk ((q1.block b8 (blk_lt A11.out)).trans A11.out)
  have hs12 := B12.out.size
  refine hK _ _ H12.out ?_
  clear hK K q1
  unfold nextV dnC
  iterate 3 (with_reducible refine wpT_sure (fun K hK => ?_); go_simp; with_reducible refine hK _ ?_; clear hK K)
  with_reducible refine wpT_next (fun K hK => ?_)
  rw [if_pos (by rfl)]
  refine wp_storeC 49 (.tmp 8) (.tmp 82) rfl b8 49 [.int .i64 d.st, .bool d.undo, .int .i64 d.tr] _ rfl rfl A12.out rfl size49 (dnC_one d) ?_
  intro w14 q1 q2 q3 q4
  have B14 : As (Below W.heap.size W w14) := ⟨B12.out.trans (q2 _ (by have := HB8.out; omega))⟩
  have H14 := As.mk (H12.out.far (q2 0 (Nat.zero_le _)) q4 (by have := HB8.out; have := HLT.out; omega) (by have := HB8.out; have := HLT.out; omega) (by have := HB8.out; have := HLT.out; omega))
  have A14 := As.mk q1
  refine hK _ _ H14.out ?_
  clear hK K q1 q2 q3 q4
  with_reducible refine wpT_next (fun K hK => ?_)
  go_simp
  refine hK _ _ H14.out ?_
  clear hK K
  refine wpT_nil ?_
  obtain ⟨k0, k1, k2, k3, k4, k5, k6, k7, k8, k9, k10⟩ := cells11 H14.out.2.1
  have l0 := (blk_cell A14.out 0).trans rfl
  have l1 := (blk_cell A14.out 1).trans rfl
  have l2 := (blk_cell A14.out 2).trans rfl
  go_wp2_with fail
  go_ret
  exact ⟨rfl, B14.out⟩
end Go.Proofs.YthfjhgdiakciaaaGreat.Bl
/- May an entry come now, by its kind (ledger.fits)? A result. Condition: the ledger lies in memory as it is told; an answer is waited for, this one. -/
namespace Go.Proofs.YthfjhgdiakciaaaGreat.Bl
open Go.RowKit Go.Maps
set_option linter.unusedVariables false
set_option linter.unusedSimpArgs false
set_option maxHeartbeats 4000000 in
set_option maxRecDepth 100000 in
theorem fits_result1 {W : World} {lb mb g n c i : Nat} {pv : Value} {last tk nt ep : Int} (hb : W.heap[lb]? = some (.cells #[pv, .slice (some ⟨g, 0, none⟩) n c, .map (some mb), .int .u64 last, .int .u32 ep, .int .i64 1, .int .i64 tk, .int .i64 nt] 93 (0, 0))) (hn : n < 500) (hi : i < n)
  {oad : Option Addr} {ocd st tr code : Nat} (hoc : OrCells W g (i * 11) oad ocd ⟨1, st, tr, true, 0⟩) (hg : g < W.heap.size) {ak ad : Option Addr} {ck cd : Nat} {lsn : Int} :
  Calls Tryz.prog 80 #[.pointer (some ⟨lb, 0, none⟩), .agg #[.int .i64 4, .int .u64 lsn, .int .u32 1, .int .u32 ((i : Int) + 1), .int .i64 st, .bool false, .int .i64 tr, .int .i64 code, .int .u64 0, .slice ak 0 ck, .slice ad 0 cd]] W fun e W' => e = .returned (.bool true) ∧ Below W.heap.size W W' := by
 have hbox : (W.alloc (.cells #[.int .i64 4, .int .u64 lsn, .int .u32 1, .int .u32 ((i : Int) + 1), .int .i64 st, .bool false, .int .i64 tr, .int .i64 code, .int .u64 0, .slice ak 0 ck, .slice ad 0 cd] 41)).heap[W.heap.size]? = some (.cells #[.int .i64 4, .int .u64 lsn, .int .u32 1, .int .u32 ((i : Int) + 1), .int .i64 st, .bool false, .int .i64 tr, .int .i64 code, .int .u64 0, .slice ak 0 ck, .slice ad 0 cd] 41 (0, 0)) := blk_new W _
 have B0 : As (Below W.heap.size W (W.alloc (.cells #[.int .i64 4, .int .u64 lsn, .int .u32 1, .int .u32 ((i : Int) + 1), .int .i64 st, .bool false, .int .i64 tr, .int .i64 code, .int .u64 0, .slice ak 0 ck, .slice ad 0 cd] 41))) := ⟨(Below.refl _ W).alloc (Nat.le_refl _) _⟩
 have HAT := As.mk (at_some (W := W.alloc (.cells #[.int .i64 4, .int .u64 lsn, .int .u32 1, .int .u32 ((i : Int) + 1), .int .i64 st, .bool false, .int .i64 tr, .int .i64 code, .int .u64 0, .slice ak 0 ck, .slice ad 0 cd] 41)) (lb := lb) (g := g) (n := n) (c := c) (k := i) ((blk_cell (blk_old hb _) 1).trans rfl) (by omega) hi)
 have hoc0 := hoc.keep (w' := W.alloc (.cells #[.int .i64 4, .int .u64 lsn, .int .u32 1, .int .u32 ((i : Int) + 1), .int .i64 st, .bool false, .int .i64 tr, .int .i64 code, .int .u64 0, .slice ak 0 ck, .slice ad 0 cd] 41)) (Below.heap_alloc _ _ _ hg)
 have o3 := hoc0.sg 0 _ rfl
 have o4 := hoc0.sg 1 _ rfl
 have o5 := hoc0.sg 2 _ rfl
 have o6 := hoc0.sg 3 _ rfl
 simp only [Nat.add_zero, Nat.add_assoc, Nat.reduceAdd] at o3 o4 o5 o6
 clear hb hoc hoc0
 go_enter Tryz.func80, Tryz.ntmps80
 go_wp2_with fail
 refine HAT.out.mono ?_
 rintro e w1 ⟨rfl, rfl⟩
 obtain ⟨k0, k1, k2, k3, k4, k5, k6, k7, k8, k9, k10⟩ := cells11 hbox
 obtain ⟨b3, hb3⟩ : ∃ b3, b3 = W.heap.size := ⟨_, rfl⟩
 rw [← hb3] at hbox k0 k1 k2 k3 k4 k5 k6 k7 k8 k9 k10 ⊢
 generalize W.alloc (.cells #[.int .i64 4, .int .u64 lsn, .int .u32 1, .int .u32 ((i : Int) + 1), .int .i64 st, .bool false, .int .i64 tr, .int .i64 code, .int .u64 0, .slice ak 0 ck, .slice ad 0 cd] 41) = w0 at *
 clear HAT hb3 hbox
 go_upto_region 12 with fail
 go_region
 go_wp2_with fail
 go_ret
 exact ⟨rfl, B0.out.drew⟩
set_option maxHeartbeats 4000000 in
set_option maxRecDepth 100000 in
theorem fits_result2 {W : World} {lb mb g n c i : Nat} {pv : Value} {last tk nt ep : Int} (hb : W.heap[lb]? = some (.cells #[pv, .slice (some ⟨g, 0, none⟩) n c, .map (some mb), .int .u64 last, .int .u32 ep, .int .i64 1, .int .i64 tk, .int .i64 nt] 93 (0, 0))) (hn : n < 500) (hi : i < n)
  {oad : Option Addr} {ocd st tr code : Nat} (hoc : OrCells W g (i * 11) oad ocd ⟨2, st, tr, true, 0⟩) (hg : g < W.heap.size) {ak ad : Option Addr} {ck cd : Nat} {lsn : Int} :
  Calls Tryz.prog 80 #[.pointer (some ⟨lb, 0, none⟩), .agg #[.int .i64 4, .int .u64 lsn, .int .u32 1, .int .u32 ((i : Int) + 1), .int .i64 st, .bool true, .int .i64 tr, .int .i64 code, .int .u64 0, .slice ak 0 ck, .slice ad 0 cd]] W fun e W' => e = .returned (.bool true) ∧ Below W.heap.size W W' := by
 have hbox : (W.alloc (.cells #[.int .i64 4, .int .u64 lsn, .int .u32 1, .int .u32 ((i : Int) + 1), .int .i64 st, .bool true, .int .i64 tr, .int .i64 code, .int .u64 0, .slice ak 0 ck, .slice ad 0 cd] 41)).heap[W.heap.size]? = some (.cells #[.int .i64 4, .int .u64 lsn, .int .u32 1, .int .u32 ((i : Int) + 1), .int .i64 st, .bool true, .int .i64 tr, .int .i64 code, .int .u64 0, .slice ak 0 ck, .slice ad 0 cd] 41 (0, 0)) := blk_new W _
 have B0 : As (Below W.heap.size W (W.alloc (.cells #[.int .i64 4, .int .u64 lsn, .int .u32 1, .int .u32 ((i : Int) + 1), .int .i64 st, .bool true, .int .i64 tr, .int .i64 code, .int .u64 0, .slice ak 0 ck, .slice ad 0 cd] 41))) := ⟨(Below.refl _ W).alloc (Nat.le_refl _) _⟩
 have HAT := As.mk (at_some (W := W.alloc (.cells #[.int .i64 4, .int .u64 lsn, .int .u32 1, .int .u32 ((i : Int) + 1), .int .i64 st, .bool true, .int .i64 tr, .int .i64 code, .int .u64 0, .slice ak 0 ck, .slice ad 0 cd] 41)) (lb := lb) (g := g) (n := n) (c := c) (k := i) ((blk_cell (blk_old hb _) 1).trans rfl) (by omega) hi)
 have hoc0 := hoc.keep (w' := W.alloc (.cells #[.int .i64 4, .int .u64 lsn, .int .u32 1, .int .u32 ((i : Int) + 1), .int .i64 st, .bool true, .int .i64 tr, .int .i64 code, .int .u64 0, .slice ak 0 ck, .slice ad 0 cd] 41)) (Below.heap_alloc _ _ _ hg)
 have o3 := hoc0.sg 0 _ rfl
 have o4 := hoc0.sg 1 _ rfl
 have o5 := hoc0.sg 2 _ rfl
 have o6 := hoc0.sg 3 _ rfl
 simp only [Nat.add_zero, Nat.add_assoc, Nat.reduceAdd] at o3 o4 o5 o6
 clear hb hoc hoc0
 go_enter Tryz.func80, Tryz.ntmps80
 go_wp2_with fail
 refine HAT.out.mono ?_
 rintro e w1 ⟨rfl, rfl⟩
 obtain ⟨k0, k1, k2, k3, k4, k5, k6, k7, k8, k9, k10⟩ := cells11 hbox
 obtain ⟨b3, hb3⟩ : ∃ b3, b3 = W.heap.size := ⟨_, rfl⟩
 rw [← hb3] at hbox k0 k1 k2 k3 k4 k5 k6 k7 k8 k9 k10 ⊢
 generalize W.alloc (.cells #[.int .i64 4, .int .u64 lsn, .int .u32 1, .int .u32 ((i : Int) + 1), .int .i64 st, .bool true, .int .i64 tr, .int .i64 code, .int .u64 0, .slice ak 0 ck, .slice ad 0 cd] 41) = w0 at *
 clear HAT hb3 hbox
 go_upto_region 12 with fail
 go_region
 go_wp2_with fail
 go_ret
 exact ⟨rfl, B0.out.drew⟩
end Go.Proofs.YthfjhgdiakciaaaGreat.Bl
/- May an entry come now (ledger.Check)? Condition: what its kind says is known; its number is the next one. -/
namespace Go.Proofs.YthfjhgdiakciaaaGreat.Bl
open Go.RowKit Go.Maps
set_option linter.unusedVariables false
set_option linter.unusedSimpArgs false
set_option maxHeartbeats 4000000 in
set_option maxRecDepth 100000 in
theorem lcheck_b {W : World} {lb mb last : Nat} {pv lv : Value} {tk nt ep kd od st tr co : Int} {u : Bool} {ak ad : Option Addr} {nk ck nd cd : Nat} (b : Bool) (hb : W.heap[lb]? = some (.cells #[pv, lv, .map (some mb), .int .u64 last, .int .u32 ep, .int .i64 1, .int .i64 tk, .int .i64 nt] 93 (0, 0))) (hep : ep ≤ 1) (hla : last < 1000000)
  (hc : ChkOk #[.int .i64 kd, .int .u64 ((last : Int) + 1), .int .u32 1, .int .u32 od, .int .i64 st, .bool u, .int .i64 tr, .int .i64 co, .int .u64 0, .slice ak nk ck, .slice ad nd cd]) (hf : ∀ w, Below W.heap.size W w → Calls Tryz.prog 80 #[.pointer (some ⟨lb, 0, none⟩), .agg #[.int .i64 kd, .int .u64 ((last : Int) + 1), .int .u32 1, .int .u32 od, .int .i64 st, .bool u, .int .i64 tr, .int .i64 co, .int .u64 0, .slice ak nk ck, .slice ad nd cd]] w fun e W' => e = .returned (.bool b) ∧ Below w.heap.size w W') :
  Calls Tryz.prog 38 #[.pointer (some ⟨lb, 0, none⟩), .agg #[.int .i64 kd, .int .u64 ((last : Int) + 1), .int .u32 1, .int .u32 od, .int .i64 st, .bool u, .int .i64 tr, .int .i64 co, .int .u64 0, .slice ak nk ck, .slice ad nd cd]] W fun e W' => e = .returned (.int .i64 (if b = true then 0 else 200)) ∧ Below W.heap.size W W' := by
 have HB := As.mk hb
 have HC := As.mk hc
 have HF := As.mk hf
 have hsub : IntKind.u64.wrap (last : Int) = last := by simp [IntKind.wrap, IntKind.bits, IntKind.signed]; omega
 have hd1 : decide ((1 : Int) < ep) = false := by simp; omega
 have hlb := blk_lt hb
 clear hb hc hf
 go_enter Tryz.func38, Tryz.ntmps38
 go_wp2_with fail
 refine (HC.out _).mono ?_
 rintro e w1 ⟨rfl, q1⟩
 have hbox := (q1.block W.heap.size (by simp)).trans (heap_alloc_new W _)
 have B1 : As (Below W.heap.size W w1) := ⟨((Below.refl _ W).alloc (Nat.le_refl _) _).trans (q1.mono (by simp))⟩
 have hb1 := (B1.out.block lb hlb).trans HB.out
 have hs1 := B1.out.size
 clear q1
 obtain ⟨b3, hb3⟩ : ∃ b3, b3 = W.heap.size := ⟨_, rfl⟩
 rw [← hb3] at hbox ⊢
 clear hb3
 go_upto_region 5 with fail
 refine wp_region_plan_kept (fun w' => w'.heap[lb]? = some (.cells #[pv, lv, .map (some mb), .int .u64 last, .int .u32 ep, .int .i64 1, .int .i64 tk, .int .i64 nt] 93 (0, 0)) ∧ w'.heap[b3]? = some (.cells #[.int .i64 kd, .int .u64 ((last : Int) + 1), .int .u32 1, .int .u32 od, .int .i64 st, .bool u, .int .i64 tr, .int .i64 co, .int .u64 0, .slice ak nk ck, .slice ad nd cd] 41 (0, 0))) [(1,0),(0,1),(1,2),(1,3),(1,4),(1,5),(0,6),(1,7),(1,8),(1,9),(0,10),(1,11),(1,12),(1,13),(0,14),(1,15),(1,16),(1,17),(1,18),(0,19),(2,20),(2,21),(2,22),(2,23)] (by kernel_rfl) (by kernel_rfl) (by kernel_rfl) (by kernel_rfl) (fun _ _ _ _ _ h => h) ⟨hb1, hbox⟩ ?_
 simp only [tagged, List.filterMap_cons, List.filterMap_nil, List.getElem?_toArray, List.getElem?_cons_succ, List.getElem?_cons_zero, Option.map_some]
 iterate 1 (with_reducible refine wpKept_sure (fun K hK => ?_); go_simp; with_reducible refine hK _ ?_; clear hK K)
 refine wpKept_take (fun K hK => ?_)
 rw [if_pos (by rfl)]
 apply Exists.intro
 refine ⟨fun w' hw' => ?_, hK _ ?_⟩
 ·have j0 := (blk_cell hw'.2 1).trans rfl
  go_simp
  rfl
 clear hK K
 iterate 4 (with_reducible refine wpKept_sure (fun K hK => ?_); go_simp; with_reducible refine hK _ ?_; clear hK K)
 refine wpKept_take (fun K hK => ?_)
 rw [if_pos (by rfl)]
 apply Exists.intro
 refine ⟨fun w' hw' => ?_, hK _ ?_⟩
 ·have j0 := (blk_cell hw'.1 3).trans rfl
  go_simp
  rfl
 clear hK K
 iterate 3 (with_reducible refine wpKept_sure (fun K hK => ?_); go_simp; with_reducible refine hK _ ?_; clear hK K)
 refine wpKept_take (fun K hK => ?_)
 rw [if_pos (by rfl)]
 apply Exists.intro
 refine ⟨fun w' hw' => ?_, hK _ ?_⟩
 ·have j0 := (blk_cell hw'.2 2).trans rfl
  go_simp
  rfl
 clear hK K
 iterate 3 (with_reducible refine wpKept_sure (fun K hK => ?_); go_simp; with_reducible refine hK _ ?_; clear hK K)
 refine wpKept_take (fun K hK => ?_)
 rw [if_pos (by rfl)]
 apply Exists.intro
 refine ⟨fun w' hw' => ?_, hK _ ?_⟩
 ·have j0 := (blk_cell hw'.1 4).trans rfl
  go_simp
  rfl
 clear hK K
 iterate 4 (with_reducible refine wpKept_sure (fun K hK => ?_); go_simp; with_reducible refine hK _ ?_; clear hK K)
 refine wpKept_take (fun K hK => ?_)
 rw [if_pos (by rfl)]
 refine ⟨.agg #[.int .i64 kd, .int .u64 ((last : Int) + 1), .int .u32 1, .int .u32 od, .int .i64 st, .bool u, .int .i64 tr, .int .i64 co, .int .u64 0, .slice ak nk ck, .slice ad nd cd], fun w' hw' => exec_load_mid _ _ _ 41 (.tmp 3) rfl b3 0 rfl [.int .i64 kd, .int .u64 ((last : Int) + 1), .int .u32 1, .int .u32 od, .int .i64 st, .bool u, .int .i64 tr, .int .i64 co, .int .u64 0, .slice ak nk ck, .slice ad nd cd] _ (fun j v hv => by rw [Nat.zero_add, blk_cell hw'.2]; simpa using hv) Tryz.underlying41 rfl size41, hK _ ?_⟩
 clear hK K
 with_reducible refine wpKept_next (fun K hK => ?_)
 go_simp
 refine (HF.out w1.drew B1.out.drew).mono ?_
 rintro e w2 ⟨rfl, q1⟩
 have B2 : As (Below W.heap.size W w2) := ⟨B1.out.drew.trans (q1.mono hs1)⟩
 have hb2 := (q1.block lb (blk_lt hb1)).trans hb1
 have hbox2 := (q1.block b3 (blk_lt hbox)).trans hbox
 refine hK _ _ ⟨hb2, hbox2⟩ ?_
 clear hK K q1
 cases b with
 | true =>
  with_reducible refine wpKept_next (fun K hK => ?_)
  go_simp
  refine hK _ _ ⟨hb2, hbox2⟩ ?_
  clear hK K
  with_reducible refine wpKept_next (fun K hK => ?_)
  go_simp
  refine hK _ _ ⟨hb2, hbox2⟩ ?_
  clear hK K
  with_reducible refine wpKept_next (fun K hK => ?_)
  go_simp
  refine hK _ _ ⟨hb2, hbox2⟩ ?_
  clear hK K
  refine wpKept_nil ?_
  go_wp2_with fail
  go_ret
  exact ⟨rfl, B2.out⟩
 | false =>
  with_reducible refine wpKept_next (fun K hK => ?_)
  go_simp
  refine hK _ _ ⟨hb2, hbox2⟩ ?_
  clear hK K
  with_reducible refine wpKept_next (fun K hK => ?_)
  go_simp
  refine hK _ _ ⟨hb2, hbox2⟩ ?_
  clear hK K
  with_reducible refine wpKept_next (fun K hK => ?_)
  go_simp
  refine hK _ _ ⟨hb2, hbox2⟩ ?_
  clear hK K
  refine wpKept_nil ?_
  go_wp2_with fail
  go_ret
  exact ⟨rfl, B2.out⟩
end Go.Proofs.YthfjhgdiakciaaaGreat.Bl
/- An entry comes (ledger.Apply): an order whose key is there already. Condition: Check says no. -/
namespace Go.Proofs.YthfjhgdiakciaaaGreat.Bl
open Go.RowKit Go.Maps
set_option linter.unusedVariables false
set_option linter.unusedSimpArgs false
set_option maxHeartbeats 4000000 in
set_option maxRecDepth 100000 in
theorem apply_no_l {W : World} {lb mb last : Nat} {pv lv : Value} {tk nt ep kd od st tr co : Int} {u : Bool} {ak ad : Option Addr} {nk ck nd cd : Nat} (hb : W.heap[lb]? = some (.cells #[pv, lv, .map (some mb), .int .u64 last, .int .u32 ep, .int .i64 1, .int .i64 tk, .int .i64 nt] 93 (0, 0)))
  (hC : ∀ w, Below W.heap.size W w → Calls Tryz.prog 38 #[.pointer (some ⟨lb, 0, none⟩), .agg #[.int .i64 kd, .int .u64 ((last : Int) + 1), .int .u32 1, .int .u32 od, .int .i64 st, .bool u, .int .i64 tr, .int .i64 co, .int .u64 0, .slice ak nk ck, .slice ad nd cd]] w fun e W' => e = .returned (.int .i64 200) ∧ Below w.heap.size w W') :
  Calls Tryz.prog 13 #[.pointer (some ⟨lb, 0, none⟩), .agg #[.int .i64 kd, .int .u64 ((last : Int) + 1), .int .u32 1, .int .u32 od, .int .i64 st, .bool u, .int .i64 tr, .int .i64 co, .int .u64 0, .slice ak nk ck, .slice ad nd cd]] W fun e W' => e = .returned (.int .i64 200) ∧ (∃ y : Int, W'.heap[lb]? = some (.cells #[pv, lv, .map (some mb), .int .u64 last, .int .u32 ep, .int .i64 1, .int .i64 tk, .int .i64 y] 93 (0, 0))) ∧ Frame (fun k => k = lb) W W' := by
 have HC := As.mk hC
 have HB := As.mk hb
 have hlb := blk_lt hb
 clear hb hC
 go_enter Tryz.func13, Tryz.ntmps13
 go_wp2_with fail
 refine (HC.out _ ((Below.refl _ W).alloc (Nat.le_refl _) _)).mono ?_
 rintro e w1 ⟨rfl, q1⟩
 have B1 : As (Below W.heap.size W w1) := ⟨((Below.refl _ W).alloc (Nat.le_refl _) _).trans (q1.mono (by simp))⟩
 have hb1 := As.mk ((B1.out.block lb hlb).trans HB.out)
 have hs1 := B1.out.size
 have c7 := (blk_cell hb1.out 7).trans rfl
 have f7 := blk_frozen hb1.out 7
 clear q1 HC
 go_wp2_with fail
 refine (add_a c7 f7).mono ?_
 rintro e w2 ⟨⟨v, rfl⟩, y, rfl⟩
 have hb2 := As.mk ((blk_put hb1.out 7 (.int .i64 y)).trans rfl)
 have F2 : As (Frame (fun k => k = lb) W (w1.setCell ⟨lb, 7, none⟩ (.int .i64 y))) := ⟨(Frame.of_below (own := fun k => k = lb) B1.out (Nat.le_refl _)).setCell (p := ⟨lb, 7, none⟩) (.inl rfl) _⟩
 go_wp2_with fail
 go_ret
 exact ⟨rfl, ⟨y, hb2.out⟩, F2.out⟩
end Go.Proofs.YthfjhgdiakciaaaGreat.Bl
