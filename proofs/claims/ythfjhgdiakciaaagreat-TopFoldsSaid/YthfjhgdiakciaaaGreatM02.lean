/- A region that draws its order, over a condition on the world that holds till one operation (a store of what the others read): what yields its value in every such world is taken first, the rest comes in one order. After Derived/OrdersHeld.lean. Condition: the Bool 'Region.planH'. -/
import Derived.OrdersHeld
import Derived.Deep.RegionHeld3
import Derived.Deep.DrawnRows
import Derived.Great.BuildSlice
import Derived.Test.YthfjhgdiakciaaaGreatM01
namespace Go
open Go.RowKit
section
variable {P : Program} {ops : Array Oper} {Q : Exit → Act → World → Prop} {md : Region.Mode} {S : World → Prop}
/-- Whatever order is picked from here on, and S holds behind every operation till number f has come up. -/
def wpAnyF (P : Program) (md : Region.Mode) (ops : Array Oper) (Q : Exit → Act → World → Prop) (S : World → Prop) (f : Nat) : Nat → Array Bool → Act → World → Prop
 | 0, listed, a, w => Region.ready md ops listed = [] ∧ Q .normal a w
 | fuel + 1, listed, a, w =>
  (Region.ready md ops listed = [] → Q .normal a w) ∧
  ∀ i ∈ Region.ready md ops listed, wpOp P ops Q i (fun a' w' => ((listed.setIfInBounds i true).getD f true = false → S w') ∧ wpAnyF P md ops Q S f fuel (listed.setIfInBounds i true) a' w') a w
theorem wpAny_of_F {f : Nat} : ∀ (fuel : Nat) (listed : Array Bool) (a : Act) (w : World), wpAnyF P md ops Q S f fuel listed a w → wpAny P md ops Q fuel listed a w
 | 0, _, _, _, h => h
 | fuel + 1, _, _, _, h => ⟨h.1, fun i hi => wpOp_mono (fun a' w' h' => wpAny_of_F fuel _ a' w' h'.2) (h.2 i hi)⟩
theorem not_ready_of_waits {f i : Nat} {listed : Array Bool} (hw : Region.waitsFor md ops f i = true) (hun : listed.getD i true = false) : f ∉ Region.ready md ops listed := fun hr => by
 obtain ⟨_, oj, hoj, hall⟩ := mem_ready.1 hr
 obtain ⟨o', ho', e, he, hb, hon⟩ := Region.waitsFor_spec hw
 have : o' = oj := Option.some.inj (ho'.symm.trans hoj)
 subst this
 have h2 := hall e he hb
 rw [hon, getD_both hun] at h2
 cases h2
theorem getD_of_set {listed : Array Bool} {i f : Nat} (h : (listed.setIfInBounds i true).getD f true = false) : listed.getD f true = false := by
 by_cases hif : i = f
 ·subst hif
  rcases Nat.lt_or_ge i listed.size with h' | h'
  ·simp [h'] at h
  ·simp at h
 ·rwa [getD_set_ne true hif] at h
/-- One that yields its value in every world of S', S' holding behind whatever may come ahead of it. -/
theorem wpAnyF_first {f i : Nat} {oi : Oper} {v : Value} {S' : World → Prop} (hi : ops[i]? = some oi) (hsel : ∀ (j : Nat) (o : Oper) cs b, ops[j]? = some o → o.op ≠ .select cs b)
  (hQ : ∀ c a w, Q (.panic c) (a.put oi.dst v) w → Q (.panic c) a w) (hif : i ≠ f) (hSS : (∀ w, S' w) ∨ (Region.waitsFor md ops f i = true ∧ ∀ w, S w → S' w)) :
  ∀ (fuel : Nat) (listed : Array Bool) (a : Act) (w : World),
   (∀ j oj, ops[j]? = some oj → j ≠ i → listed.getD j true = false → (∀ e ∈ oj.after, Region.binds md e = true → e.on ≠ i) → oi.apart ops oj = true) →
   i ∈ Region.ready md ops listed → YieldsIf P ops S' oi v a → S' w → ((∀ w, S' w) ∨ listed.getD f true = false) → (listed.getD f true = false → S w) →
   wpAnyF P md ops Q S f fuel (listed.setIfInBounds i true) (a.put oi.dst v) w → wpAnyF P md ops Q S f (fuel + 1) listed a w := by
 intro fuel
 induction fuel with
 | zero =>
  intro listed a w _ hr hy hS _ hSw H
  refine ⟨fun h => (by rw [h] at hr; cases hr), fun j hj => ?_⟩
  by_cases hji : j = i
  ·subst hji; exact hy.wpOp hi hS ⟨fun h => hSw (getD_of_set h), H⟩
  ·have := ready_mono hj hji
   rw [H.1] at this
   cases this
 | succ fuel ih =>
  intro listed a w hfree hr hy hS hfu hSw H
  refine ⟨fun h => (by rw [h] at hr; cases hr), fun j hj => ?_⟩
  by_cases hji : j = i
  ·subst hji; exact hy.wpOp hi hS ⟨fun h => hSw (getD_of_set h), H⟩
  ·have h1 := H.2 j (ready_mono hj hji)
   have hun := (mem_ready.1 hr).1
   obtain ⟨hjun, oj, hoj, hall⟩ := mem_ready.1 hj
   have hnot : ∀ e ∈ oj.after, Region.binds md e = true → e.on ≠ i := fun e he hb heq => by
    have h1 := hall e he hb
    rw [heq, getD_both hun] at h1
    cases h1
   have h2 := wpOp_putIf hoj (hfree j oj hoj hji hjun hnot) (fun cs b => hsel i oi cs b hi) (fun cs b => hsel j oj cs b hoj) hQ hy h1
   have hfree' : ∀ k ok, ops[k]? = some ok → k ≠ i → (listed.setIfInBounds j true).getD k true = false →
     (∀ e ∈ ok.after, Region.binds md e = true → e.on ≠ i) → oi.apart ops ok = true := fun k ok hk hki hun hno => by
    refine hfree k ok hk hki ?_ hno
    by_cases hjk : j = k
    ·subst hjk; exact hjun
    ·rw [getD_set_ne true hjk] at hun; exact hun
   refine wpOp_mono (fun a' w' h3 => ?_) h2
   have hD : (listed.setIfInBounds j true).getD f true = false → S w' := fun h => h3.2.1 (by
    rw [Array.setIfInBounds_comm _ _ (Ne.symm hji), getD_set_ne true hif]; exact h)
   have hfu' : (∀ w, S' w) ∨ (listed.setIfInBounds j true).getD f true = false := by
    rcases hSS with h | ⟨hw, h⟩
    ·exact .inl h
    ·rcases hfu with h' | h'
     ·exact .inl h'
     ·have hjf : j ≠ f := fun e => by subst e; exact not_ready_of_waits hw hun hj
      exact .inr (by rw [getD_set_ne true hjf]; exact h')
   have hS' : S' w' := by
    rcases hfu' with h | h
    ·exact h _
    ·rcases hSS with h' | ⟨_, h'⟩
     ·exact h' _
     ·exact h' _ (hD h)
   refine ⟨hD, ih (listed.setIfInBounds j true) a' w' hfree' (ready_mono hr (Ne.symm hji)) h3.1 hS' hfu' hD ?_⟩
   rw [Array.setIfInBounds_comm _ _ hji]
   exact h3.2.2
/-- What an operation of the walk is: it yields in every world of S (0), in every world (1), it is the one that may come next (2). -/
def wpHeld (P : Program) (ops : Array Oper) (Q : Exit → Act → World → Prop) (S : World → Prop) (f : Nat) : List (Nat × Nat × Oper) → Act → World → Prop
 | [], a, w => Q .normal a w
 | (0, _, o) :: rest, a, w => if Region.wanted o (yielded ops a.tmps) = true then ∃ v, (∀ w', S w' → (execOp a.eval o).run P w' = .ok (.value v) w') ∧ wpHeld P ops Q S f rest (a.put o.dst v) w else wpHeld P ops Q S f rest (a.put o.dst undef) w
 | (1, _, o) :: rest, a, w => if Region.wanted o (yielded ops a.tmps) = true then ∃ v, (∀ w', (execOp a.eval o).run P w' = .ok (.value v) w') ∧ wpHeld P ops Q S f rest (a.put o.dst v) w else wpHeld P ops Q S f rest (a.put o.dst undef) w
 | (_, i, o) :: rest, a, w => if Region.wanted o (yielded ops a.tmps) = true then Oper.wp P o a w (fun a' w' => (i ≠ f → S w') ∧ wpHeld P ops Q S f rest a' w') Q else (i ≠ f → S w) ∧ wpHeld P ops Q S f rest (a.put o.dst undef) w
def Region.planH (md : Region.Mode) (ops : Array Oper) (f : Nat) : List (Nat × Nat) → Array Bool → Bool
 | [], listed => (Region.ready md ops listed).isEmpty
 | (0, i) :: rest, listed => (Region.ready md ops listed).contains i && Region.free md ops listed i && decide (i ≠ f) && Region.waitsFor md ops f i && !listed.getD f true && Region.planH md ops f rest (listed.setIfInBounds i true)
 | (1, i) :: rest, listed => (Region.ready md ops listed).contains i && Region.free md ops listed i && decide (i ≠ f) && Region.planH md ops f rest (listed.setIfInBounds i true)
 | (_, i) :: rest, listed => decide (Region.ready md ops listed = [i]) && (decide (i = f) || !listed.getD f true) && Region.planH md ops f rest (listed.setIfInBounds i true)
theorem wpAnyF_of_held {f : Nat} (hsel : Region.noSelect ops = true) (hQ : ∀ c a d v w, Q (.panic c) (Act.put a d v) w → Q (.panic c) a w) :
  ∀ (l : List (Nat × Nat × Oper)) (listed : Array Bool) (a : Act) (w : World), (∀ x ∈ l, ops[x.2.1]? = some x.2.2) → Region.planH md ops f (l.map fun x => (x.1, x.2.1)) listed = true →
   (listed.getD f true = false → S w) → wpHeld P ops Q S f l a w → wpAnyF P md ops Q S f l.length listed a w := by
 intro l
 induction l with
 | nil => exact fun listed a w _ hB _ h => ⟨by simpa [Region.planH] using hB, h⟩
 | cons x rest ih =>
  intro listed a w hops hB hS h
  obtain ⟨t, i, o⟩ := x
  have hi : ops[i]? = some o := hops (t, i, o) List.mem_cons_self
  have hrest : ∀ x ∈ rest, ops[x.2.1]? = some x.2.2 := fun x hx => hops x (List.mem_cons_of_mem _ hx)
  match t with
  | 0 =>
   simp only [List.map_cons, Region.planH, Bool.and_eq_true, decide_eq_true_eq, Bool.not_eq_true'] at hB
   obtain ⟨⟨⟨⟨⟨hr, hf⟩, hif⟩, hw⟩, hfu⟩, hB'⟩ := hB
   have hr' : i ∈ Region.ready md ops listed := by simpa using hr
   simp only [wpHeld] at h
   by_cases hwt : Region.wanted o (yielded ops a.tmps) = true
   ·rw [if_pos hwt] at h
    obtain ⟨v, hv, hK⟩ := h
    exact wpAnyF_first (S' := S) hi (Region.noSelect_spec hsel) (fun c a w => hQ c a _ _ w) hif (.inr ⟨hw, fun _ h => h⟩) _ listed a w (Region.free_spec hi hf) hr' (.inl ⟨hwt, hv⟩) (hS hfu) (.inr hfu) hS
     (ih _ _ _ hrest hB' (fun _ => hS hfu) hK)
   ·rw [if_neg hwt] at h
    exact wpAnyF_first (S' := S) hi (Region.noSelect_spec hsel) (fun c a w => hQ c a _ _ w) hif (.inr ⟨hw, fun _ h => h⟩) _ listed a w (Region.free_spec hi hf) hr' (.inr ⟨by simpa using hwt, rfl⟩) (hS hfu) (.inr hfu) hS
     (ih _ _ _ hrest hB' (fun _ => hS hfu) h)
  | 1 =>
   simp only [List.map_cons, Region.planH, Bool.and_eq_true, decide_eq_true_eq] at hB
   obtain ⟨⟨⟨hr, hf⟩, hif⟩, hB'⟩ := hB
   have hr' : i ∈ Region.ready md ops listed := by simpa using hr
   simp only [wpHeld] at h
   by_cases hwt : Region.wanted o (yielded ops a.tmps) = true
   ·rw [if_pos hwt] at h
    obtain ⟨v, hv, hK⟩ := h
    exact wpAnyF_first (S' := fun _ => True) hi (Region.noSelect_spec hsel) (fun c a w => hQ c a _ _ w) hif (.inl fun _ => trivial) _ listed a w (Region.free_spec hi hf) hr' (.inl ⟨hwt, fun w _ => hv w⟩) trivial (.inl fun _ => trivial) hS
     (ih _ _ _ hrest hB' (fun h => hS (getD_of_set h)) hK)
   ·rw [if_neg hwt] at h
    exact wpAnyF_first (S' := fun _ => True) hi (Region.noSelect_spec hsel) (fun c a w => hQ c a _ _ w) hif (.inl fun _ => trivial) _ listed a w (Region.free_spec hi hf) hr' (.inr ⟨by simpa using hwt, rfl⟩) trivial (.inl fun _ => trivial) hS
     (ih _ _ _ hrest hB' (fun h => hS (getD_of_set h)) h)
  | t + 2 =>
   simp only [List.map_cons, Region.planH, Bool.and_eq_true, decide_eq_true_eq, Bool.or_eq_true, Bool.not_eq_true'] at hB
   obtain ⟨⟨hr, hfu⟩, hB'⟩ := hB
   refine ⟨fun h0 => (by rw [h0] at hr; cases hr), fun j hj => ?_⟩
   rw [hr] at hj
   have hji : j = i := by simpa using hj
   subst hji
   have key : ∀ a' w', ((j ≠ f → S w') ∧ wpHeld P ops Q S f rest a' w') → ((listed.setIfInBounds j true).getD f true = false → S w') ∧ wpAnyF P md ops Q S f rest.length (listed.setIfInBounds j true) a' w' := fun a' w' h' => by
    have hD : (listed.setIfInBounds j true).getD f true = false → S w' := fun hg => h'.1 (fun e => by
     subst e
     rcases Nat.lt_or_ge j listed.size with hl | hl
     ·simp [hl] at hg
     ·simp at hg)
    exact ⟨hD, ih _ _ _ hrest hB' hD h'.2⟩
   have h' : if Region.wanted o (yielded ops a.tmps) = true then Oper.wp P o a w (fun a' w' => (j ≠ f → S w') ∧ wpHeld P ops Q S f rest a' w') Q else (j ≠ f → S w) ∧ wpHeld P ops Q S f rest (a.put o.dst undef) w := h
   refine wpOp_mono key ?_
   unfold wpOp
   rw [hi]
   show if Region.wanted o (yielded ops a.tmps) = true then _ else _
   by_cases hwt : Region.wanted o (yielded ops a.tmps) = true
   ·rw [if_pos hwt] at h' ⊢; exact .inl h'
   ·rw [if_neg hwt] at h' ⊢; exact h'
/-- Operation number i of a region, with what it is in the walk. -/
def tagged (ops : Array Oper) (l : List (Nat × Nat)) : List (Nat × Nat × Oper) := l.filterMap fun x => (ops[x.2]?).map fun o => (x.1, x.2, o)
theorem wp_region_held_plan {id : Nat} {a : Act} {w : World} (f : Nat) (S : World → Prop) (l : List (Nat × Nat × Oper)) (hm : P.follows .mixedOrders = true) (hsel : Region.noSelect ops = true)
  (hl : l.length = ops.size) (hops : ∀ x ∈ l, ops[x.2.1]? = some x.2.2) (hB : Region.planH .any ops f (l.map fun x => (x.1, x.2.1)) (Array.replicate ops.size false) = true)
  (hQ0 : ∀ c a n v w, Q (.panic c) (Act.put a (some n) v) w → Q (.panic c) a w) (hS : S w.drew) (h : wpHeld P ops Q S f l a w.drew) : (Code.region id ops true).wp P Q a w := by
 have hQ : ∀ c a d v w, Q (.panic c) (Act.put a d v) w → Q (.panic c) a w := fun c a d v w h => by
  cases d with
  | none => exact h
  | some n => exact hQ0 c a n v w h
 refine wp_region_any hm (wpAny_of_F (f := f) (S := S) _ _ _ _ ?_)
 have := wpAnyF_of_held (md := .any) (f := f) hsel hQ l _ a w.drew hops hB (fun _ => hS) h
 rwa [hl] at this
theorem tagged_ok (l : List (Nat × Nat)) : ∀ x ∈ tagged ops l, ops[x.2.1]? = some x.2.2 := fun x hx => by
 obtain ⟨y, _, hy⟩ := List.mem_filterMap.1 hx
 obtain ⟨o, ho, rfl⟩ := Option.map_eq_some_iff.1 hy
 exact ho
theorem wp_region_plan_held {id : Nat} {a : Act} {w : World} (f : Nat) (S : World → Prop) (l : List (Nat × Nat)) (hm : P.follows .mixedOrders = true) (hsel : Region.noSelect ops = true)
  (hl : ((tagged ops l).length == ops.size) = true) (hB : Region.planH .any ops f ((tagged ops l).map fun x => (x.1, x.2.1)) (Array.replicate ops.size false) = true)
  (hQ0 : ∀ c a n v w, Q (.panic c) (Act.put a (some n) v) w → Q (.panic c) a w) (hS : S w.drew) (h : wpHeld P ops Q S f (tagged ops l) a w.drew) : (Code.region id ops true).wp P Q a w :=
 wp_region_held_plan f S (tagged ops l) hm hsel (by simpa using hl) (tagged_ok l) hB hQ0 hS h
theorem wpHeld_nil {f : Nat} {a : Act} {w : World} (h : Q .normal a w) : wpHeld P ops Q S f [] a w := h
theorem wpHeld_take {f i : Nat} {o : Oper} {rest : List (Nat × Nat × Oper)} {a : Act} {w : World}
  (h : ∀ K : Act → Prop, (∀ a, wpHeld P ops Q S f rest a w → K a) → if Region.wanted o (yielded ops a.tmps) = true then ∃ v, (∀ w', S w' → (execOp a.eval o).run P w' = .ok (.value v) w') ∧ K (a.put o.dst v) else K (a.put o.dst undef)) : wpHeld P ops Q S f ((0, i, o) :: rest) a w :=
 h _ (fun _ h => h)
theorem wpHeld_sure {f i : Nat} {o : Oper} {rest : List (Nat × Nat × Oper)} {a : Act} {w : World}
  (h : ∀ K : Act → Prop, (∀ a, wpHeld P ops Q S f rest a w → K a) → if Region.wanted o (yielded ops a.tmps) = true then ∃ v, (∀ w', (execOp a.eval o).run P w' = .ok (.value v) w') ∧ K (a.put o.dst v) else K (a.put o.dst undef)) : wpHeld P ops Q S f ((1, i, o) :: rest) a w :=
 h _ (fun _ h => h)
theorem wpHeld_next {f i : Nat} {o : Oper} {rest : List (Nat × Nat × Oper)} {a : Act} {w : World}
  (h : ∀ K : Act → World → Prop, (∀ a w, (i ≠ f → S w) → wpHeld P ops Q S f rest a w → K a w) → if Region.wanted o (yielded ops a.tmps) = true then Oper.wp P o a w K Q else K (a.put o.dst undef) w) : wpHeld P ops Q S f ((2, i, o) :: rest) a w :=
 h _ (fun _ _ h1 h2 => ⟨h1, h2⟩)
end
end Go
/- A block is written (Write). Condition: the receiver is a disk in memory, or nil; the bytes read as bytes. -/
namespace Go.Proofs.YthfjhgdiakciaaaGreat.Bl
open Go.RowKit
set_option linter.unusedVariables false
set_option linter.unusedSimpArgs false
theorem size66 : (Tryz.prog.info? 151).map (·.size) = some 65 := by kernel_rfl
theorem zw_len (k : Nat) : (wv ⟨k, zero64⟩).length = 65 := wv_len _ zero64_len
theorem wpList_build66 {ops : Array Oper} {rest : List Oper} {o : Oper} {a : Act} {w : World} {Q : Exit → Act → World → Prop} (hgd : o.guard = none) (x : Operand) (ho : o.op = .build 151 #[(0, x)]) (k : Nat) (hx : a.eval x = .int .i64 (k : Int))
  (h : wpList Tryz.prog ops Q rest (a.put o.dst (.agg (wv ⟨k, zero64⟩).toArray)) w) : wpList Tryz.prog ops Q (o :: rest) a w := by
 refine wpList_plain hgd fun K hK => ?_
 have hb : (Instr.build 151 #[(0, .int .i64 (k : Int))]).run Tryz.prog w = .ok (.agg (wv ⟨k, zero64⟩).toArray) w := by kernel_rfl
 unfold Oper.wp
 simp [execOp, ho, hx, hb, Result.andThen]
 exact hK _ _ h
theorem zero66 (w : World) : (zeroValue 151).run Tryz.prog w = .ok (.agg (wv ⟨0, zero64⟩).toArray) w := by kernel_rfl
theorem size5 : (Tryz.prog.info? 5).map (·.size) = some 1 := by kernel_rfl
theorem splice_w (k : Nat) (x : List Int) (h : x.length = 64) : splice (wv ⟨k, zero64⟩) 1 (bv x) = wv ⟨k, x⟩ := by
 unfold splice
 have e : (wv ⟨k, zero64⟩).drop (1 + (bv x).length) = [] := List.drop_eq_nil_of_le (by rw [zw_len, bv_len, h]; omega)
 rw [e, List.append_nil]
 rfl
theorem no_byte {W : World} {own : Nat → Prop} {b n g1 c1 g2 c2 : Nat} {s : St} {v : Value} (h : DiskAt W own b n s g1 c1 g2 c2 v) {q o : Nat} {x : List Int} (hr : W.rangeAt q o (bv x)) (hx : x ≠ []) : q ≠ b := by
 intro e
 subst e
 cases x with
 | nil => exact hx rfl
 | cons y x =>
  have h1 := hr 0 (.int .u8 y) rfl
  rw [blk_cell h.blk] at h1
  have hv : ∃ A k c, v = .slice A k c := by
   rcases h.wait.2 with ⟨hv, h0⟩ | ⟨g, cap, _, hv, _⟩
   ·exact ⟨_, _, _, hv⟩
   ·exact ⟨_, _, _, hv⟩
  obtain ⟨A, k, c, rfl⟩ := hv
  rcases (show o = 0 ∨ o = 1 ∨ o = 2 ∨ o = 3 ∨ o = 4 ∨ o = 5 ∨ 6 ≤ o by omega) with rfl | rfl | rfl | rfl | rfl | rfl | ho
  all_goals first | (simp at h1; done) | (rw [Array.getElem?_eq_none (by simpa using ho)] at h1; cases h1)
theorem exec_load_mid {P : Program} (o : Oper) (a : Act) (w' : World) (ty : TypeId) (x : Operand) (ho : o.op = .load ty x) (b off : Nat) (hx : a.eval x = .pointer (some ⟨b, off, none⟩)) (cs : List Value) (d : TypeDesc) (hc : w'.rangeAt b off cs)
  (hu : P.underlying ty = some d) (hd : d.isRow = true) (hi : (P.info? ty).map (·.size) = some cs.length) : (execOp a.eval o).run P w' = .ok (.value (.agg cs.toArray)) w' := by
 unfold execOp
 simp only [ho, hx, Instr.loadAt, Instr.sureAddr, Sem.run_bind, Sem.run_pure, Result.andThen_ok, run_loadVar_mid w' b off ty cs d hc hu hd hi]
theorem info66 : (Tryz.prog.info? 151).map (fun i => (i.zero, i.size, i.bytes)) = some (some (.agg (wv ⟨0, zero64⟩).toArray), 65, 72) := by kernel_rfl
set_option maxRecDepth 100000 in
theorem wp_build59 {o : Oper} {a : Act} {w : World} {K : Act → World → Prop} {Q : Exit → Act → World → Prop} (x : Operand) (ho : o.op = .buildSlice 68 1 #[(0, x)]) (cs : List Value) (hx : a.eval x = .agg cs.toArray) (hl : cs.length = 65)
  (h : K (a.put o.dst (.slice (some ⟨w.heap.size, 0, none⟩) 1 1)) (w.alloc (.cells cs.toArray 151 (0, 0)))) : o.wp Tryz.prog a w K Q := by
 obtain ⟨i0, hi, hz0, hz1, hz2⟩ := info_parts info66
 refine wp_buildSlice 68 151 1 #[(0, x)] ho cs.toArray i0 _ Tryz.underlying68 hi hz0 (by rw [hz1]; decide) (by rw [hz1]; decide) ?_ h
 have := Great.fill_whole (s := 65) (by omega) [.agg cs.toArray] ((Array.range (1 * i0.size)).map ((Value.agg (wv ⟨0, zero64⟩).toArray).cells[· % (Value.agg (wv ⟨0, zero64⟩).toArray).cells.size]!)) (fun v hv => by
  obtain rfl : v = .agg cs.toArray := by simpa using hv
  show cs.toArray.size = 65
  rw [List.size_toArray, hl]) (by simp [hz1])
 rw [hz1] at this ⊢
 simp only [List.flatMap_cons, List.flatMap_nil, List.append_nil] at this
 refine Eq.trans ?_ (this.trans ?_)
 ·congr 1
  simp [hx]
 ·rfl
theorem keep13 {w : World} {b bw g1 k : Nat} {x : List Int} {u : Value} (h : w.cell? ⟨b, 0, none⟩ = some u ∧ w.rangeAt bw 1 (bv x) ∧ w.there g1 (k * 64) 64) (h1 : b ≠ g1) (h2 : bw ≠ g1) :
  (w.setCells g1 (k * 64) (bv x)).cell? ⟨b, 0, none⟩ = some u ∧ (w.setCells g1 (k * 64) (bv x)).rangeAt bw 1 (bv x) ∧ (w.setCells g1 (k * 64) (bv x)).there g1 (k * 64) 64 :=
 ⟨by rw [World.cell?_setCells_out _ _ _ _ _ (fun e => absurd e h1)]; exact h.1, World.rangeAt_setCells_apart h.2.1 _ _ _ (.inl h2), World.there_setCells h.2.2 _ _ _⟩
def writeF (s : St) (n : Nat) (k : Int) (x : List Int) : Int × St :=
 if s.dark = true then (6, s) else if k < 0 ∨ (n : Int) ≤ k ∨ x.length ≠ 64 then (150, s) else if s.limit ≤ k then (5, s)
 else if (actF s).1 = false then (6, (actF s).2) else (0, { (actF s).2 with now := s.now.set k.toNat x, wait := s.wait ++ [⟨k.toNat, x⟩] })
theorem good_ok {s : St} {n : Nat} (h : s.Ok n) (k : Nat) (x : List Int) (hk : k < n) (hl : x.length = 64) (hx : ByteOk x) : St.Ok { (actF s).2 with now := s.now.set k x, wait := s.wait ++ [⟨k, x⟩] } n := by
 obtain ⟨a1, a2, a3, a4, a5, a6, a7, a8, a9⟩ := act_ok h
 refine ⟨a1, a2, by rw [List.length_set]; exact h.now, a4, ⟨h.b1.1.set _ hl, fun y hy => ?_⟩, a6, fun y hy => ?_, a8, a9⟩
 ·rcases List.mem_or_eq_of_mem_set hy with hy | rfl
  ·exact h.b1.2 y hy
  ·exact hx
 ·rcases List.mem_append.1 hy with hy | hy
  ·exact h.b3 y hy
  ·obtain rfl : y = ⟨k, x⟩ := by simpa using hy
   exact ⟨hk, hl, hx⟩
theorem DiskAt.store {W : World} {own : Nat → Prop} {b n g1 c1 g2 c2 : Nat} {s : St} {v : Value} (h : DiskAt W own b n s g1 c1 g2 c2 v) (h64 : All64 s.now) (hn : s.now.length = n) (k : Nat) (hk : k < n) (x : List Int) (hx : x.length = 64) :
  DiskAt (W.setCells g1 (k * 64) (bv x)) own b n { s with now := s.now.set k x } g1 c1 g2 c2 v := by
 have hb : b ≠ g1 := fun e => own_ne h.now h.blk (by decide) _ rfl e.symm
 refine ⟨by rw [setCells_far _ _ _ _ hb]; exact h.blk, ?_, own_keep h.sure (fun g hg _ => setCells_far _ _ _ _ (by rw [← ob_eq hg]; exact h.ne.symm)), own_keep h.wait (fun g hg hl => setCells_far _ _ _ _ (fun e => ?_)), h.ne, h.o0, h.o1, h.o2, h.o3⟩
 ·have := own_put (bv x) (k * 64) _ _ h.now
  have hki : k < s.now.length := by omega
  rw [flat_put h64 k hki x (by omega), over_full _ _ (by rw [hx, h64 _ (List.getElem_mem hki)])] at this
  exact this
 ·obtain ⟨cur, hc, _⟩ := own_block h.now
  exact own_ne h.wait hc (by decide) g hg e
section
variable {W : World} {own : Nat → Prop} {b n : Nat} {s : St} {A : Option Addr} {x : List Int}
theorem write_dark (h : Disk W own b n s) (k : Int) (v : Value) (hd : s.dark = true) :
  Calls Tryz.prog 121 #[.pointer (some ⟨b, 0, none⟩), .int .i64 k, v] W fun e W' => e = .returned (.int .i64 6) ∧ W = W' := by
 obtain ⟨hok, g1, c1, g2, c2, v, h⟩ := h
 obtain ⟨_, _, _, _, _, c⟩ := h.cells
 rw [hd] at c
 clear h hok
 go_enter Tryz.func121, Tryz.ntmps121
 go_wp2_with fail
 go_ret
 exact ⟨rfl, rfl⟩
theorem write_block (h : Disk W own b n s) (k : Int) (c : Nat) (m : Nat) (hd : s.dark = false) (hk : k < 0 ∨ (n : Int) ≤ k ∨ m ≠ 64) :
  Calls Tryz.prog 121 #[.pointer (some ⟨b, 0, none⟩), .int .i64 k, .slice A m c] W fun e W' => e = .returned (.int .i64 150) ∧ W = W' := by
 obtain ⟨hok, g1, c1, g2, c2, v, h⟩ := h
 obtain ⟨c0, _, _, _, _, c⟩ := h.cells
 rw [hd] at c
 clear h hok hd
 by_cases h1 : k < 0
 ·clear hk
  go_enter Tryz.func121, Tryz.ntmps121
  go_wp2_with fail
  go_ret
  exact ⟨rfl, rfl⟩
 ·by_cases h2 : (n : Int) ≤ k
  ·clear hk
   go_enter Tryz.func121, Tryz.ntmps121
   go_wp2_with fail
   go_ret
   exact ⟨rfl, rfl⟩
  ·have h3 : ((m : Int) != 64) = true := by
    have : m ≠ 64 := by omega
    simpa using (show ¬ (m : Int) = 64 by omega)
   clear hk
   go_enter Tryz.func121, Tryz.ntmps121
   go_wp2_with fail
   go_ret
   exact ⟨rfl, rfl⟩
theorem write_full (h : Disk W own b n s) (k : Int) (c : Nat) (hd : s.dark = false) (h1 : ¬ k < 0) (h2 : ¬ (n : Int) ≤ k) (hl : s.limit ≤ k) :
  Calls Tryz.prog 121 #[.pointer (some ⟨b, 0, none⟩), .int .i64 k, .slice A 64 c] W fun e W' => e = .returned (.int .i64 5) ∧ W = W' := by
 obtain ⟨hok, g1, c1, g2, c2, v, h⟩ := h
 obtain ⟨c0, _, _, c3, _, c⟩ := h.cells
 rw [hd] at c
 clear h hok hd
 generalize s.limit = l at *
 go_enter Tryz.func121, Tryz.ntmps121
 go_wp2_with fail
 go_ret
 exact ⟨rfl, rfl⟩
theorem write_gone (h : Disk W own b n s) (k : Int) (c : Nat) (hd : s.dark = false) (h1 : ¬ k < 0) (h2 : ¬ (n : Int) ≤ k) (hl : ¬ s.limit ≤ k) (ha : (actF s).1 = false) :
  Calls Tryz.prog 121 #[.pointer (some ⟨b, 0, none⟩), .int .i64 k, .slice A 64 c] W fun e W' => e = .returned (.int .i64 6) ∧ Disk W' own b n (actF s).2 ∧ Frame own W W' := by
 obtain ⟨hok, g1, c1, g2, c2, v, h⟩ := h
 obtain ⟨c0, _, _, c3, _, c⟩ := h.cells
 rw [hd] at c
 have OK := As.mk (act_ok hok)
 have HA := act_at h hok
 rw [ha] at HA
 have HA := As.mk HA
 clear h hok hd ha
 generalize s.limit = l at *
 go_enter Tryz.func121, Tryz.ntmps121
 go_wp2_with fail
 refine HA.out.mono ?_
 rintro e w1 ⟨rfl, q1, q2, _, _⟩
 have Q1 := As.mk q1
 have Q2 := As.mk q2
 clear q1 q2 c0 c3 c HA
 go_wp2_with fail
 go_ret
 exact ⟨rfl, ⟨OK.out, g1, c1, g2, c2, v, Q1.out⟩, Q2.out⟩
set_option maxHeartbeats 4000000 in
set_option maxRecDepth 100000 in
theorem write_good (h : Disk W own b n s) (k : Nat) (c : Nat) (hx : Bytes W A x) (hx64 : x.length = 64) (hd : s.dark = false) (h2 : k < n) (hl : ¬ s.limit ≤ k) (ha : (actF s).1 = true) (hw : s.wait.length < 1000000) :
  Calls Tryz.prog 121 #[.pointer (some ⟨b, 0, none⟩), .int .i64 (k : Int), .slice A 64 c] W fun e W' => e = .returned (.int .i64 0) ∧ Disk W' (And' own W) b n { (actF s).2 with now := s.now.set k x, wait := s.wait ++ [⟨k, x⟩] } ∧ Frame own W W' := by
 have hne : x ≠ [] := fun e => by rw [e] at hx64; cases hx64
 obtain ⟨q, o, rfl, hq, hr⟩ := hx.2 hne
 have hbo := hx.1
 have OK' := As.mk (good_ok h.ok k x h2 hx64 hbo)
 obtain ⟨hok, g1, c1, g2, c2, v, h⟩ := h
 obtain ⟨c0, _, _, c3, _, c⟩ := h.cells
 rw [hd] at c
 have HA := act_at h hok
 rw [ha] at HA
 have HA := As.mk HA
 have H := As.mk h
 have OK := As.mk hok
 have HR := As.mk hr
 have hn : n ≤ 1024 := hok.n2
 have hl' : (k : Int) < s.limit := by omega
 have h2' : (k : Int) < n := by omega
 clear h hok hd ha hr hx hl
 generalize s.limit = l at *
 go_enter Tryz.func121, Tryz.ntmps121
 go_wp2_with fail
 refine HA.out.mono ?_
 rintro e w1 ⟨rfl, q1, q2, q3, q4⟩
 have Q1 := As.mk q1
 have Q2 := As.mk q2
 have Q3 := As.mk q3
 have Q4 := As.mk q4
 clear q1 q2 q3 q4 c0 c3 c HA
 have hz66 := zero66
 go_upto_region 12 with (first | (refine wpList_build66 rfl (.tmp 44) rfl k rfl ?_) | (refine wpList_store_mid rfl 151 (.tmp 7) (.tmp 45) rfl w1.heap.size 0 (wv ⟨k, zero64⟩).toArray rfl rfl (there_block (blk_new w1 _) _ _ (by rw [List.size_toArray, zw_len]; exact Nat.le_refl _)) (by rw [List.size_toArray, zw_len]; exact size66) (all_oneCell_toArray (wv_one _)) ?_))
 have hbw : As (((w1.alloc (.cells (wv ⟨0, zero64⟩).toArray 151 (0, 0))).setCells w1.heap.size 0 (wv ⟨k, zero64⟩)).heap[w1.heap.size]? = some (.cells (wv ⟨k, zero64⟩).toArray 151 (0, 0))) := ⟨by
  rw [setCells_same (wv ⟨k, zero64⟩) w1.heap.size 0 _ _ (blk_new w1 _), putAt_whole _ _ (by rw [zw_len, zw_len])]⟩
 have hB2 : As (Below w1.heap.size w1 ((w1.alloc (.cells (wv ⟨0, zero64⟩).toArray 151 (0, 0))).setCells w1.heap.size 0 (wv ⟨k, zero64⟩))) := ⟨((Below.refl _ _).alloc (Nat.le_refl _) _).trans (setCells_below _ (Nat.le_refl _))⟩
 generalize (w1.alloc (.cells (wv ⟨0, zero64⟩).toArray 151 (0, 0))).setCells w1.heap.size 0 (wv ⟨k, zero64⟩) = w2 at *
 have hR2 : As (w2.rangeAt q o (bv x)) := ⟨range_heap HR.out ((hB2.out.block q (by have := Q4.out; omega)).trans (Q3.out q (no_byte H.out HR.out hne)))⟩
 generalize hbwe : w1.heap.size = bw at *
 have HBW := As.mk hbwe
 clear hbwe hz66
 go_upto_region 13 with ((refine wpList_copy_splice rfl (.tmp 47) (.tmp 48) 39 39 rfl 5 Tryz.underlying39 size5 (some ⟨bw, 1, none⟩) (some ⟨q, o, none⟩) 64 64 64 c rfl rfl bw 1 (wv ⟨k, zero64⟩) 151 hbw.out (bv x) (by rw [bv_len, hx64]; rfl) (fun _ => ⟨rfl, _, rfl, fun j v hv => ?c1⟩) (by rw [bv_len, hx64, zw_len]; exact Nat.le_refl _) (bv_one x) bw w1 hB2.out (Nat.le_refl _) ?_))
 case c1 => rw [Addr.add_mid]; exact hR2.out j v hv
 intro w3 hg3 hb3
 have hbw3 : As (w3.heap[bw]? = some (.cells (wv ⟨k, x⟩).toArray 151 (0, 0))) := ⟨by rw [← splice_w k x hx64]; exact hg3.out⟩
 have hB3 := As.mk hb3
 clear hg3 hb3 hB2 hR2 hbw
 have hD3 : As (DiskAt w3 own b n (actF s).2 g1 c1 g2 c2 v) := ⟨Q1.out.keep (fun k _ hl => hB3.out.block k (by have := HBW.out; omega))⟩
 have OKA := As.mk (act_ok OK.out)
 have E1 := As.mk (act_same s)
 generalize hsa : (actF s).2 = sa at *
 have HSA := As.mk hsa
 clear hsa
 obtain ⟨d0, d1, d2, d3, d4, d5⟩ := hD3.out.cells
 go_upto_region 13 with fail
 have hu := Tryz.underlying149
 have hi : (Tryz.prog.info? 149).map (·.size) = some (bv x).length := by rw [bv_len, hx64]; exact size64
 have hlen : (bv x).length = 64 := by rw [bv_len, hx64]
 have hone := bv_one x
 have hi0 : (0 : Int) ≤ (k : Int) := by omega
 have hr3 : w3.rangeAt bw 1 (bv x) := fun j v hv => by
  rw [blk_cell hbw3.out, List.getElem?_toArray, Nat.add_comm]
  exact hv
 have ht3 : w3.there g1 (k * 64) 64 := own_there hD3.out.now _ _ (by omega)
 have hbg : b ≠ g1 := fun e => own_ne hD3.out.now hD3.out.blk (by decide) _ rfl e.symm
 have hwg : bw ≠ g1 := by have h1 : g1 < w1.heap.size := own_lt Q1.out.now _ rfl; have := HBW.out; omega
 go_region_held3 (fun w' => w'.cell? ⟨b, 0, none⟩ = some (.slice (some ⟨g1, 0, none⟩) n c1) ∧ w'.rangeAt bw 1 (bv x) ∧ w'.there g1 (k * 64) 64) (first | go_keep_ranges | (go_split_ands; exact keep13 ⟨by assumption, by assumption, by assumption⟩ hbg hwg)) (fail)
 have hD4 : As (DiskAt (w3.drew.setCells g1 (k * 64) (bv x)) own b n { sa with now := s.now.set k x } g1 c1 g2 c2 v) := ⟨by
  have hD : DiskAt w3.drew own b n sa g1 c1 g2 c2 v := hD3.out.keep (fun _ _ _ => rfl)
  have e1 : sa.now = s.now := E1.out.1
  have := hD.store (by rw [e1]; exact OK.out.b1.1) (by rw [e1]; exact OK.out.now) k h2 x hx64
  rwa [e1] at this⟩
 have hbw4 : As ((w3.drew.setCells g1 (k * 64) (bv x)).heap[bw]? = some (.cells (wv ⟨k, x⟩).toArray 151 (0, 0))) := ⟨by rw [setCells_far _ _ _ _ hwg]; exact hbw3.out⟩
 have hF4 : As (Frame own W (w3.drew.setCells g1 (k * 64) (bv x))) := ⟨((Q2.out.trans (Frame.of_below (own := own) hB3.out (by rw [HBW.out]; exact Nat.le_refl _)) (fun _ _ h => h)).drew).setCells (.inl hD3.out.o1) _ _⟩
 have hS4 : As (bw < (w3.drew.setCells g1 (k * 64) (bv x)).heap.size) := ⟨blk_lt hbw4.out⟩
 generalize w3.drew.setCells g1 (k * 64) (bv x) = w4 at *
 clear hD3 hbw3 hB3 hr3 ht3 hu hi hlen hone d0 d1 d2 d3 d4 d5 Q1 Q3
 obtain ⟨d0, d1, d2, d3, d4, d5⟩ := hD4.out.cells
 go_upto_region 14 with fail
 have hr4 : w4.rangeAt bw 0 (wv ⟨k, x⟩) := fun j u hu => by
  rw [blk_cell hbw4.out, List.getElem?_toArray, Nat.zero_add]
  exact hu
 refine wp_region_plan_held 10 (fun w' => w'.cell? ⟨b, 2, none⟩ = some v ∧ w'.rangeAt bw 0 (wv ⟨k, x⟩)) [(1, 0), (1, 1), (1, 2), (1, 3), (0, 4), (0, 5), (2, 6), (2, 7), (1, 8), (1, 9), (2, 10)] (by kernel_rfl) (by kernel_rfl) (by kernel_rfl) (by kernel_rfl) (fun _ _ _ _ _ h => h) ⟨d2, hr4⟩ ?_
 simp only [tagged, List.filterMap_cons, List.filterMap_nil, List.getElem?_toArray, List.getElem?_cons_succ, List.getElem?_cons_zero, Option.map_some]
 iterate 4 (refine wpHeld_sure (fun K hK => ?_); go_simp; refine hK _ ?_; clear hK K)
 refine wpHeld_take (fun K hK => ?_)
 rw [if_pos (by rfl)]
 apply Exists.intro
 refine ⟨fun w' hw' => ?_, hK _ ?_⟩
 ·obtain ⟨s0, s1⟩ := hw'
  go_simp
  rfl
 clear hK K
 refine wpHeld_take (fun K hK => ?_)
 rw [if_pos (by rfl)]
 refine ⟨.agg (wv ⟨k, x⟩).toArray, fun w' hw' => ?_, hK _ ?_⟩
 ·obtain ⟨s0, s1⟩ := hw'
  exact exec_load_mid _ _ _ 151 (.tmp 7) rfl bw 0 rfl (wv ⟨k, x⟩) _ s1 Tryz.underlying151 rfl (by rw [wv_len _ hx64]; exact size66)
 clear hK K
 refine wpHeld_next (fun K hK => ?_)
 rw [if_pos (by rfl)]
 refine wp_build59 (.tmp 63) rfl (wv ⟨k, x⟩) rfl (wv_len _ hx64) ?_
 generalize hW6 : w4.drew.alloc (.cells (wv ⟨k, x⟩).toArray 151 (0, 0)) = w6
 have hD6 : As (DiskAt w6 own b n { sa with now := s.now.set k x } g1 c1 g2 c2 v) := ⟨by rw [← hW6]; exact hD4.out.keep (fun k _ hl => Below.heap_alloc _ _ _ hl)⟩
 have hbw6 : As (w6.heap[bw]? = some (.cells (wv ⟨k, x⟩).toArray 151 (0, 0))) := ⟨by rw [← hW6]; exact blk_old (W := w4.drew) hbw4.out _⟩
 have hN6 : As (w6.heap[w4.heap.size]? = some (.cells (wv ⟨k, x⟩).toArray 151 (0, 0))) := ⟨by rw [← hW6]; exact blk_new w4.drew _⟩
 have hF6 : As (Frame own W w6) := ⟨by rw [← hW6]; exact hF4.out.drew.alloc _⟩
 have hs6 : w6.heap.size = w4.heap.size + 1 := by rw [← hW6]; simp
 have hW4 : As (W.heap.size ≤ w4.heap.size) := ⟨hF4.out.low.size⟩
 clear hW6 hD4 hbw4 hF4 hr4 d0 d1 d2 d3 d4 d5
 obtain ⟨d0, d1, d2, d3, d4, d5⟩ := hD6.out.cells
 have hr6 : w6.rangeAt bw 0 (wv ⟨k, x⟩) := fun j u hu => by
  rw [blk_cell hbw6.out, List.getElem?_toArray, Nat.zero_add]
  exact hu
 refine hK _ _ (fun _ => ⟨d2, hr6⟩) ?_
 clear hK K hr6
 have hww : s.wait.length = sa.wait.length := by rw [E1.out.2.2.1]
 refine wpHeld_next (fun K hK => ?_)
 obtain ⟨i0, hi0, hz0, hz1, hz2⟩ := info_parts info66
 refine step_append_lies w6 (by rfl) _ _ _ (by rfl) 0 151 i0 _ 65 72 Tryz.underlying68 hi0 hz0 hz1 hz2 (by rfl) (by omega) v sa.wait.length (flatW sa.wait) (by rfl) hD6.out.wait
  ⟨w4.heap.size, 0, none⟩ 1 1 (wv ⟨k, x⟩) (by rfl) (wv_len _ hx64) (World.news_of_block hN6.out) (wv_one _) (by omega) (by unfold maxLen; omega) (by omega) (by omega) (w4.heap.size + 1) hs6 ?_
 intro gg cap w7 hown7 hgrow7 hat7 hlt7
 have hvlt : ∀ g, v.ownBlock = some g → g < W.heap.size := own_lt H.out.wait
 have hvb : ∀ g, v.ownBlock = some g → g ≠ b := own_ne hD6.out.wait hD6.out.blk (by decide)
 have hBR7 : As (w7.heap[b]? = some (.cells #[.slice (some ⟨g1, 0, none⟩) n c1, .slice (some ⟨g2, 0, none⟩) n c2, v, .int .i64 sa.limit, .int .i64 sa.left, .bool sa.dark] 70 (0, 0))) := ⟨(hgrow7.block b (blk_lt hD6.out.blk) (fun e => hvb b e.symm rfl)).trans hD6.out.blk⟩
 have hbw7 : As (w7.heap[bw]? = some (.cells (wv ⟨k, x⟩).toArray 151 (0, 0))) := ⟨(hgrow7.block bw (blk_lt hbw6.out) (fun e => by have := hvlt bw e.symm; have := Q4.out; omega)).trans hbw6.out⟩
 have hkp : ∀ g, g < w6.heap.size → v.ownBlock ≠ some g → w7.heap[g]? = w6.heap[g]? := fun g hg hv => hgrow7.block g hg (fun e => hv e.symm)
 have hnow7 : As (w7.ownsRow 0 149 64 (.slice (some ⟨g1, 0, none⟩) n c1) n (flat (s.now.set k x))) := ⟨own_keep hD6.out.now (fun g hg hl => hkp g hl (fun e => by
  obtain ⟨cur, hc, _⟩ := own_block hD6.out.now
  exact own_ne hD6.out.wait hc (by decide) g e (ob_eq hg).symm))⟩
 have hsure7 : As (w7.ownsRow 0 149 64 (.slice (some ⟨g2, 0, none⟩) n c2) n (flat sa.sure)) := ⟨own_keep hD6.out.sure (fun g hg hl => hkp g hl (fun e => by
  obtain ⟨cur, hc, _⟩ := own_block hD6.out.sure
  exact own_ne hD6.out.wait hc (by decide) g e (ob_eq hg).symm))⟩
 have hF7 : As (Frame own W w7) := ⟨hF6.out.grown hgrow7 (fun k hk => .inl (hD6.out.o3 k hk))⟩
 have hwt7 : As (w7.ownsRow 0 151 65 (.slice (some ⟨gg, 0, none⟩) (sa.wait.length + 1) cap) (sa.wait.length + 1) (flatW sa.wait ++ wv ⟨k, x⟩)) := ⟨hown7⟩
 have hgg7 : As (own gg ∨ W.heap.size ≤ gg) := ⟨by
  rcases hat7 with h | h
  ·exact .inl (hD6.out.o3 gg h)
  ·right; have := hW4.out; omega⟩
 have hO := As.mk (And.intro hD6.out.o0 (And.intro hD6.out.o1 hD6.out.o2))
 have hNE := As.mk hD6.out.ne
 clear hown7 hgrow7 hat7 hlt7 hD6 hbw6 hN6 hF6 hkp d0 d1 d2 d3 d4 d5
 have d2 := (blk_cell hBR7.out 2).trans rfl
 have f2 := blk_frozen hBR7.out 2
 have hr7 : w7.rangeAt bw 0 (wv ⟨k, x⟩) := fun j u hu => by
  rw [blk_cell hbw7.out, List.getElem?_toArray, Nat.zero_add]
  exact hu
 refine hK _ _ (fun _ => ⟨d2, hr7⟩) ?_
 clear hK K hr7
 iterate 2 (refine wpHeld_sure (fun K hK => ?_); go_simp; refine hK _ ?_; clear hK K)
 refine wpHeld_next (fun K hK => ?_)
 go_simp
 refine hK _ _ (fun h => absurd rfl h) ?_
 clear hK K
 refine wpHeld_nil ?_
 go_wp2_with fail
 go_ret
 have hg1b : g1 ≠ b := own_ne hnow7.out hBR7.out (by decide) _ rfl
 have hg2b : g2 ≠ b := own_ne hsure7.out hBR7.out (by decide) _ rfl
 have hggb : gg ≠ b := own_ne hwt7.out hBR7.out (by decide) _ rfl
 rw [HSA.out]
 refine ⟨rfl, ⟨OK'.out, g1, c1, g2, c2, .slice (some ⟨gg, 0, none⟩) (sa.wait.length + 1) cap, ?_⟩, hF7.out.setCell (.inl hO.out.1) _⟩
 refine ⟨?_, ?_, ?_, ?_, hNE.out, .inl hO.out.1, .inl hO.out.2.1, .inl hO.out.2.2, fun g hg => by rw [← ob_eq hg]; exact hgg7.out⟩
 ·rw [blk_put hBR7.out 2]
  simp
 ·exact own_keep hnow7.out (fun g hg _ => Below.heap_setCell _ _ _ _ (by rw [← ob_eq hg]; exact hg1b))
 ·exact own_keep hsure7.out (fun g hg _ => Below.heap_setCell _ _ _ _ (by rw [← ob_eq hg]; exact hg2b))
 ·show (w7.setCell ⟨b, 2, none⟩ _).ownsRow 0 151 65 _ (s.wait ++ [(⟨k, x⟩ : Wr)]).length (flatW (s.wait ++ [(⟨k, x⟩ : Wr)]))
  rw [flatW_snoc, List.length_append, ← E1.out.2.2.1]
  exact own_keep hwt7.out (fun g hg _ => Below.heap_setCell _ _ _ _ (by rw [← ob_eq hg]; exact hggb))
end
end Go.Proofs.YthfjhgdiakciaaaGreat.Bl
