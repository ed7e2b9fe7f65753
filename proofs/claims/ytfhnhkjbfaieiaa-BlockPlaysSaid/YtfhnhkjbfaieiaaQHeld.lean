/- A region that draws its order, over a condition on the world that holds till one operation (a store of what the others read): what yields its value in every such world is taken first, the rest comes in one order. After Derived/OrdersHeld.lean. Condition: the Bool 'Region.planH'. -/
import Derived.Test.YtfhnhkjbfaieiaaQTail
import Derived.OrdersHeld
namespace Go
open Go.RowKit
section
variable {P : Program} {ops : Array Oper} {Q : Exit → Act → World → Prop} {md : Region.Mode} {S : World → Prop}
/-- Whatever order is picked from here on, and S holds behind every operation till number f has come up. -/
def wpAnyF (P : Program) (md : Region.Mode) (ops : Array Oper) (Q : Exit → Act → World → Prop) (S : World → Prop) (f : Nat) : Nat → Array Bool → Act → World → Prop
  | 0, listed, a, w => Region.ready md ops listed = [] ∧ Q .normal a w
  | fuel + 1, listed, a, w =>
    (Region.ready md ops listed = [] → Q .normal a w) ∧
    ∀ i ∈ Region.ready md ops listed, wpOp P ops Q i (fun a' w' => ((listed.setIfInBounds i true).getD f true = false → S w') ∧ wpAnyF P md ops Q S f fuel (listed.setIfInBounds i true) a' w') a w
theorem wpAny_of_F {f : Nat} : ∀ (fuel : Nat) (listed : Array Bool) (a : Act) (w : World), wpAnyF P md ops Q S f fuel listed a w → wpAny P md ops Q fuel listed a w
  | 0, _, _, _, h => h
  | fuel + 1, _, _, _, h => ⟨h.1, fun i hi => wpOp_mono (fun a' w' h' => wpAny_of_F fuel _ a' w' h'.2) (h.2 i hi)⟩
theorem not_ready_of_waits {f i : Nat} {listed : Array Bool} (hw : Region.waitsFor md ops f i = true) (hun : listed.getD i true = false) : f ∉ Region.ready md ops listed := fun hr => by
  obtain ⟨_, oj, hoj, hall⟩ := mem_ready.1 hr
  obtain ⟨o', ho', e, he, hb, hon⟩ := Region.waitsFor_spec hw
  have : o' = oj := Option.some.inj (ho'.symm.trans hoj)
  subst this
  have h2 := hall e he hb
  rw [hon, getD_both hun] at h2
  cases h2
theorem getD_of_set {listed : Array Bool} {i f : Nat} (h : (listed.setIfInBounds i true).getD f true = false) : listed.getD f true = false := by
  by_cases hif : i = f
  · subst hif
    rcases Nat.lt_or_ge i listed.size with h' | h'
    · simp [h'] at h
    · simp at h
  · rwa [getD_set_ne true hif] at h
/-- One that yields its value in every world of S', S' holding behind whatever may come ahead of it. -/
theorem wpAnyF_first {f i : Nat} {oi : Oper} {v : Value} {S' : World → Prop} (hi : ops[i]? = some oi) (hsel : ∀ (j : Nat) (o : Oper) cs b, ops[j]? = some o → o.op ≠ .select cs b)
    (hQ : ∀ c a w, Q (.panic c) (a.put oi.dst v) w → Q (.panic c) a w) (hif : i ≠ f) (hSS : (∀ w, S' w) ∨ (Region.waitsFor md ops f i = true ∧ ∀ w, S w → S' w)) :
    ∀ (fuel : Nat) (listed : Array Bool) (a : Act) (w : World),
      (∀ j oj, ops[j]? = some oj → j ≠ i → listed.getD j true = false → (∀ e ∈ oj.after, Region.binds md e = true → e.on ≠ i) → oi.apart ops oj = true) →
      i ∈ Region.ready md ops listed → YieldsIf P ops S' oi v a → S' w → ((∀ w, S' w) ∨ listed.getD f true = false) → (listed.getD f true = false → S w) →
      wpAnyF P md ops Q S f fuel (listed.setIfInBounds i true) (a.put oi.dst v) w → wpAnyF P md ops Q S f (fuel + 1) listed a w := by
  intro fuel
  induction fuel with
  | zero =>
    intro listed a w _ hr hy hS _ hSw H
    refine ⟨fun h => (by rw [h] at hr; cases hr), fun j hj => ?_⟩
    by_cases hji : j = i
    · subst hji; exact hy.wpOp hi hS ⟨fun h => hSw (getD_of_set h), H⟩
    · have := ready_mono hj hji
      rw [H.1] at this
      cases this
  | succ fuel ih =>
    intro listed a w hfree hr hy hS hfu hSw H
    refine ⟨fun h => (by rw [h] at hr; cases hr), fun j hj => ?_⟩
    by_cases hji : j = i
    · subst hji; exact hy.wpOp hi hS ⟨fun h => hSw (getD_of_set h), H⟩
    · have h1 := H.2 j (ready_mono hj hji)
      have hun := (mem_ready.1 hr).1
      obtain ⟨hjun, oj, hoj, hall⟩ := mem_ready.1 hj
      have hnot : ∀ e ∈ oj.after, Region.binds md e = true → e.on ≠ i := fun e he hb heq => by
        have h1 := hall e he hb
        rw [heq, getD_both hun] at h1
        cases h1
      have h2 := wpOp_putIf hoj (hfree j oj hoj hji hjun hnot) (fun cs b => hsel i oi cs b hi) (fun cs b => hsel j oj cs b hoj) hQ hy h1
      have hfree' : ∀ k ok, ops[k]? = some ok → k ≠ i → (listed.setIfInBounds j true).getD k true = false →
          (∀ e ∈ ok.after, Region.binds md e = true → e.on ≠ i) → oi.apart ops ok = true := fun k ok hk hki hun hno => by
        refine hfree k ok hk hki ?_ hno
        by_cases hjk : j = k
        · subst hjk; exact hjun
        · rw [getD_set_ne true hjk] at hun; exact hun
      refine wpOp_mono (fun a' w' h3 => ?_) h2
      have hD : (listed.setIfInBounds j true).getD f true = false → S w' := fun h => h3.2.1 (by
        rw [Array.setIfInBounds_comm _ _ (Ne.symm hji), getD_set_ne true hif]; exact h)
      have hfu' : (∀ w, S' w) ∨ (listed.setIfInBounds j true).getD f true = false := by
        rcases hSS with h | ⟨hw, h⟩
        · exact .inl h
        · rcases hfu with h' | h'
          · exact .inl h'
          · have hjf : j ≠ f := fun e => by subst e; exact not_ready_of_waits hw hun hj
            exact .inr (by rw [getD_set_ne true hjf]; exact h')
      have hS' : S' w' := by
        rcases hfu' with h | h
        · exact h _
        · rcases hSS with h' | ⟨_, h'⟩
          · exact h' _
          · exact h' _ (hD h)
      refine ⟨hD, ih (listed.setIfInBounds j true) a' w' hfree' (ready_mono hr (Ne.symm hji)) h3.1 hS' hfu' hD ?_⟩
      rw [Array.setIfInBounds_comm _ _ hji]
      exact h3.2.2
/-- What an operation of the walk is: it yields in every world of S (0), in every world (1), it is the one that may come next (2). -/
def wpHeld (P : Program) (ops : Array Oper) (Q : Exit → Act → World → Prop) (S : World → Prop) (f : Nat) : List (Nat × Nat × Oper) → Act → World → Prop
  | [], a, w => Q .normal a w
  | (0, _, o) :: rest, a, w => if Region.wanted o (yielded ops a.tmps) = true then ∃ v, (∀ w', S w' → (execOp a.eval o).run P w' = .ok (.value v) w') ∧ wpHeld P ops Q S f rest (a.put o.dst v) w else wpHeld P ops Q S f rest (a.put o.dst undef) w
  | (1, _, o) :: rest, a, w => if Region.wanted o (yielded ops a.tmps) = true then ∃ v, (∀ w', (execOp a.eval o).run P w' = .ok (.value v) w') ∧ wpHeld P ops Q S f rest (a.put o.dst v) w else wpHeld P ops Q S f rest (a.put o.dst undef) w
  | (_, i, o) :: rest, a, w => if Region.wanted o (yielded ops a.tmps) = true then Oper.wp P o a w (fun a' w' => (i ≠ f → S w') ∧ wpHeld P ops Q S f rest a' w') Q else (i ≠ f → S w) ∧ wpHeld P ops Q S f rest (a.put o.dst undef) w
def Region.planH (md : Region.Mode) (ops : Array Oper) (f : Nat) : List (Nat × Nat) → Array Bool → Bool
  | [], listed => (Region.ready md ops listed).isEmpty
  | (0, i) :: rest, listed => (Region.ready md ops listed).contains i && Region.free md ops listed i && decide (i ≠ f) && Region.waitsFor md ops f i && !listed.getD f true && Region.planH md ops f rest (listed.setIfInBounds i true)
  | (1, i) :: rest, listed => (Region.ready md ops listed).contains i && Region.free md ops listed i && decide (i ≠ f) && Region.planH md ops f rest (listed.setIfInBounds i true)
  | (_, i) :: rest, listed => decide (Region.ready md ops listed = [i]) && (decide (i = f) || !listed.getD f true) && Region.planH md ops f rest (listed.setIfInBounds i true)
theorem wpAnyF_of_held {f : Nat} (hsel : Region.noSelect ops = true) (hQ : ∀ c a d v w, Q (.panic c) (Act.put a d v) w → Q (.panic c) a w) :
    ∀ (l : List (Nat × Nat × Oper)) (listed : Array Bool) (a : Act) (w : World), (∀ x ∈ l, ops[x.2.1]? = some x.2.2) → Region.planH md ops f (l.map fun x => (x.1, x.2.1)) listed = true →
      (listed.getD f true = false → S w) → wpHeld P ops Q S f l a w → wpAnyF P md ops Q S f l.length listed a w := by
  intro l
  induction l with
  | nil => exact fun listed a w _ hB _ h => ⟨by simpa [Region.planH] using hB, h⟩
  | cons x rest ih =>
    intro listed a w hops hB hS h
    obtain ⟨t, i, o⟩ := x
    have hi : ops[i]? = some o := hops (t, i, o) List.mem_cons_self
    have hrest : ∀ x ∈ rest, ops[x.2.1]? = some x.2.2 := fun x hx => hops x (List.mem_cons_of_mem _ hx)
    match t with
    | 0 =>
      simp only [List.map_cons, Region.planH, Bool.and_eq_true, decide_eq_true_eq, Bool.not_eq_true'] at hB
      obtain ⟨⟨⟨⟨⟨hr, hf⟩, hif⟩, hw⟩, hfu⟩, hB'⟩ := hB
      have hr' : i ∈ Region.ready md ops listed := by simpa using hr
      simp only [wpHeld] at h
      by_cases hwt : Region.wanted o (yielded ops a.tmps) = true
      · rw [if_pos hwt] at h
        obtain ⟨v, hv, hK⟩ := h
        exact wpAnyF_first (S' := S) hi (Region.noSelect_spec hsel) (fun c a w => hQ c a _ _ w) hif (.inr ⟨hw, fun _ h => h⟩) _ listed a w (Region.free_spec hi hf) hr' (.inl ⟨hwt, hv⟩) (hS hfu) (.inr hfu) hS
          (ih _ _ _ hrest hB' (fun _ => hS hfu) hK)
      · rw [if_neg hwt] at h
        exact wpAnyF_first (S' := S) hi (Region.noSelect_spec hsel) (fun c a w => hQ c a _ _ w) hif (.inr ⟨hw, fun _ h => h⟩) _ listed a w (Region.free_spec hi hf) hr' (.inr ⟨by simpa using hwt, rfl⟩) (hS hfu) (.inr hfu) hS
          (ih _ _ _ hrest hB' (fun _ => hS hfu) h)
    | 1 =>
      simp only [List.map_cons, Region.planH, Bool.and_eq_true, decide_eq_true_eq] at hB
      obtain ⟨⟨⟨hr, hf⟩, hif⟩, hB'⟩ := hB
      have hr' : i ∈ Region.ready md ops listed := by simpa using hr
      simp only [wpHeld] at h
      by_cases hwt : Region.wanted o (yielded ops a.tmps) = true
      · rw [if_pos hwt] at h
        obtain ⟨v, hv, hK⟩ := h
        exact wpAnyF_first (S' := fun _ => True) hi (Region.noSelect_spec hsel) (fun c a w => hQ c a _ _ w) hif (.inl fun _ => trivial) _ listed a w (Region.free_spec hi hf) hr' (.inl ⟨hwt, fun w _ => hv w⟩) trivial (.inl fun _ => trivial) hS
          (ih _ _ _ hrest hB' (fun h => hS (getD_of_set h)) hK)
      · rw [if_neg hwt] at h
        exact wpAnyF_first (S' := fun _ => True) hi (Region.noSelect_spec hsel) (fun c a w => hQ c a _ _ w) hif (.inl fun _ => trivial) _ listed a w (Region.free_spec hi hf) hr' (.inr ⟨by simpa using hwt, rfl⟩) trivial (.inl fun _ => trivial) hS
          (ih _ _ _ hrest hB' (fun h => hS (getD_of_set h)) h)
    | t + 2 =>
      simp only [List.map_cons, Region.planH, Bool.and_eq_true, decide_eq_true_eq, Bool.or_eq_true, Bool.not_eq_true'] at hB
      obtain ⟨⟨hr, hfu⟩, hB'⟩ := hB
      refine ⟨fun h0 => (by rw [h0] at hr; cases hr), fun j hj => ?_⟩
      rw [hr] at hj
      have hji : j = i := by simpa using hj
      subst hji
      have key : ∀ a' w', ((j ≠ f → S w') ∧ wpHeld P ops Q S f rest a' w') → ((listed.setIfInBounds j true).getD f true = false → S w') ∧ wpAnyF P md ops Q S f rest.length (listed.setIfInBounds j true) a' w' := fun a' w' h' => by
        have hD : (listed.setIfInBounds j true).getD f true = false → S w' := fun hg => h'.1 (fun e => by
          subst e
          rcases Nat.lt_or_ge j listed.size with hl | hl
          · simp [hl] at hg
          · simp at hg)
        exact ⟨hD, ih _ _ _ hrest hB' hD h'.2⟩
      have h' : if Region.wanted o (yielded ops a.tmps) = true then Oper.wp P o a w (fun a' w' => (j ≠ f → S w') ∧ wpHeld P ops Q S f rest a' w') Q else (j ≠ f → S w) ∧ wpHeld P ops Q S f rest (a.put o.dst undef) w := h
      refine wpOp_mono key ?_
      unfold wpOp
      rw [hi]
      show if Region.wanted o (yielded ops a.tmps) = true then _ else _
      by_cases hwt : Region.wanted o (yielded ops a.tmps) = true
      · rw [if_pos hwt] at h' ⊢; exact .inl h'
      · rw [if_neg hwt] at h' ⊢; exact h'
/-- Operation number i of a region, with what it is in the walk. -/
def tagged (ops : Array Oper) (l : List (Nat × Nat)) : List (Nat × Nat × Oper) := l.filterMap fun x => (ops[x.2]?).map fun o => (x.1, x.2, o)
theorem wp_region_held_plan {id : Nat} {a : Act} {w : World} (f : Nat) (S : World → Prop) (l : List (Nat × Nat × Oper)) (hm : P.follows .mixedOrders = true) (hsel : Region.noSelect ops = true)
    (hl : l.length = ops.size) (hops : ∀ x ∈ l, ops[x.2.1]? = some x.2.2) (hB : Region.planH .any ops f (l.map fun x => (x.1, x.2.1)) (Array.replicate ops.size false) = true)
    (hQ0 : ∀ c a n v w, Q (.panic c) (Act.put a (some n) v) w → Q (.panic c) a w) (hS : S w.drew) (h : wpHeld P ops Q S f l a w.drew) : (Code.region id ops true).wp P Q a w := by
  have hQ : ∀ c a d v w, Q (.panic c) (Act.put a d v) w → Q (.panic c) a w := fun c a d v w h => by
    cases d with
    | none => exact h
    | some n => exact hQ0 c a n v w h
  refine wp_region_any hm (wpAny_of_F (f := f) (S := S) _ _ _ _ ?_)
  have := wpAnyF_of_held (md := .any) (f := f) hsel hQ l _ a w.drew hops hB (fun _ => hS) h
  rwa [hl] at this
theorem tagged_ok (l : List (Nat × Nat)) : ∀ x ∈ tagged ops l, ops[x.2.1]? = some x.2.2 := fun x hx => by
  obtain ⟨y, _, hy⟩ := List.mem_filterMap.1 hx
  obtain ⟨o, ho, rfl⟩ := Option.map_eq_some_iff.1 hy
  exact ho
theorem wp_region_plan_held {id : Nat} {a : Act} {w : World} (f : Nat) (S : World → Prop) (l : List (Nat × Nat)) (hm : P.follows .mixedOrders = true) (hsel : Region.noSelect ops = true)
    (hl : ((tagged ops l).length == ops.size) = true) (hB : Region.planH .any ops f ((tagged ops l).map fun x => (x.1, x.2.1)) (Array.replicate ops.size false) = true)
    (hQ0 : ∀ c a n v w, Q (.panic c) (Act.put a (some n) v) w → Q (.panic c) a w) (hS : S w.drew) (h : wpHeld P ops Q S f (tagged ops l) a w.drew) : (Code.region id ops true).wp P Q a w :=
  wp_region_held_plan f S (tagged ops l) hm hsel (by simpa using hl) (tagged_ok l) hB hQ0 hS h
theorem wpHeld_nil {f : Nat} {a : Act} {w : World} (h : Q .normal a w) : wpHeld P ops Q S f [] a w := h
theorem wpHeld_take {f i : Nat} {o : Oper} {rest : List (Nat × Nat × Oper)} {a : Act} {w : World}
    (h : ∀ K : Act → Prop, (∀ a, wpHeld P ops Q S f rest a w → K a) → if Region.wanted o (yielded ops a.tmps) = true then ∃ v, (∀ w', S w' → (execOp a.eval o).run P w' = .ok (.value v) w') ∧ K (a.put o.dst v) else K (a.put o.dst undef)) : wpHeld P ops Q S f ((0, i, o) :: rest) a w :=
  h _ (fun _ h => h)
theorem wpHeld_sure {f i : Nat} {o : Oper} {rest : List (Nat × Nat × Oper)} {a : Act} {w : World}
    (h : ∀ K : Act → Prop, (∀ a, wpHeld P ops Q S f rest a w → K a) → if Region.wanted o (yielded ops a.tmps) = true then ∃ v, (∀ w', (execOp a.eval o).run P w' = .ok (.value v) w') ∧ K (a.put o.dst v) else K (a.put o.dst undef)) : wpHeld P ops Q S f ((1, i, o) :: rest) a w :=
  h _ (fun _ h => h)
theorem wpHeld_next {f i : Nat} {o : Oper} {rest : List (Nat × Nat × Oper)} {a : Act} {w : World}
    (h : ∀ K : Act → World → Prop, (∀ a w, (i ≠ f → S w) → wpHeld P ops Q S f rest a w → K a w) → if Region.wanted o (yielded ops a.tmps) = true then Oper.wp P o a w K Q else K (a.put o.dst undef) w) : wpHeld P ops Q S f ((2, i, o) :: rest) a w :=
  h _ (fun _ _ h1 h2 => ⟨h1, h2⟩)
end
end Go
