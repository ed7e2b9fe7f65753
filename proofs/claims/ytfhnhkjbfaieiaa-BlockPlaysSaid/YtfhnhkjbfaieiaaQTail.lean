/- A region that draws its order: its first operations read, or call what lays new blocks alone; the last ones come in one order, behind them: one walk, in the text's order. Derived/StillTail.lean's theorem, over a class of worlds as Derived/Deep/Quiet.lean has it. Condition: the Bool of Derived/StillTail.lean. -/
import Derived.StillTail
import Derived.Deep.Quiet
import Derived.Lib.QuietBelow
namespace Go
open Go.RowKit
section
variable {P : Program} {ops : Array Oper} {md : Region.Mode} {C : World → Prop}
def wpAnyQL (P : Program) (md : Region.Mode) (ops : Array Oper) (C : World → Prop) (n : Nat) (L : Array Bool → Act → Prop) : Nat → Array Bool → Act → Prop
  | 0, listed, a => L listed a
  | f + 1, listed, a =>
    Region.ready md ops listed ≠ [] ∧ ∀ i ∈ Region.ready md ops listed, i < n ∧ qOp P ops C i (wpAnyQL P md ops C n L f (listed.setIfInBounds i true)) a
theorem wpAny_of_headQ {n g : Nat} {L : Array Bool → Act → Prop} {Q' : Exit → Act → World → Prop} (hL : ∀ listed a w, C w → L listed a → wpAny P md ops Q' g listed a w) :
    ∀ (f : Nat) (listed : Array Bool) (a : Act) (w : World), C w → wpAnyQL P md ops C n L f listed a → wpAny P md ops Q' (f + g) listed a w
  | 0, listed, a, w, hw, h => by rw [Nat.zero_add]; exact hL _ _ _ hw h
  | f + 1, listed, a, w, hw, h => by
    rw [show f + 1 + g = (f + g) + 1 by omega]
    exact ⟨fun h0 => absurd h0 h.1, fun i hi => wpOp_of_qOp hw (fun a' w' hw' h' => wpAny_of_headQ hL f _ a' w' hw' h') (h.2 i hi).2⟩

/-- Each of the operations behind number n waits for one behind n, ahead of it. -/
def Region.chain2B (md : Region.Mode) (ops : Array Oper) (n : Nat) : Bool :=
  (List.range ops.size).all fun t => decide (t ≤ n) || (List.range t).any fun j => decide (n ≤ j) && Region.waitsFor md ops t j
theorem tail_waits2 {n : Nat} {listed : Array Bool} (hs : Region.sinkB md ops n = true) (hc : Region.chain2B md ops n = true) (hn : n < ops.size) (inv : HeadInv md ops n listed) :
    ∀ (d i : Nat), n - i = d → i < n → listed.getD i true = false → ∀ t, n ≤ t → t ∉ Region.ready md ops listed := by
  intro d
  induction d using Nat.strongRecOn with
  | _ d ih =>
    intro i hd hi hun t ht hr
    obtain ⟨_, ot, hot, hall⟩ := mem_ready.1 hr
    have htlt : t < ops.size := (Array.getElem?_eq_some_iff.1 hot).1
    by_cases htn : t = n
    · subst htn
      have h1 := List.all_eq_true.1 hs i (List.mem_range.2 hi)
      obtain ⟨j, hj, hj2⟩ := List.any_eq_true.1 h1
      simp only [Bool.and_eq_true, decide_eq_true_eq] at hj2
      obtain ⟨oj, hoj, e, he, hb, hon⟩ := Region.waitsFor_spec hj2.2
      have hjle : j ≤ t := by have := List.mem_range.1 hj; omega
      by_cases hjt : j = t
      · subst hjt
        have : oj = ot := Option.some.inj (hoj.symm.trans hot)
        subst this
        have h2 := hall e he hb
        rw [hon, getD_both hun] at h2
        cases h2
      · cases hl : listed.getD j false with
        | true =>
          have h2 := inv.closed j oj hoj hl e he hb
          rw [hon, getD_both hun] at h2
          cases h2
        | false =>
          have hjs : j < listed.size := by rw [inv.size]; omega
          exact ih (t - j) (by omega) j rfl (by omega) (getD_in hjs hl) t (Nat.le_refl _) hr
    · have h1 := List.all_eq_true.1 hc t (List.mem_range.2 htlt)
      simp only [Bool.or_eq_true, decide_eq_true_eq] at h1
      rcases h1 with h1 | h1
      · omega
      · obtain ⟨j, hj, hj2⟩ := List.any_eq_true.1 h1
        simp only [Bool.and_eq_true, decide_eq_true_eq] at hj2
        have hjt := List.mem_range.1 hj
        obtain ⟨o', ho', e, he, hb, hon⟩ := Region.waitsFor_spec hj2.2
        have : o' = ot := Option.some.inj (ho'.symm.trans hot)
        subst this
        have h2 := hall e he hb
        rw [hon, getD_both (inv.tail j hj2.1 (by omega))] at h2
        cases h2
theorem wpAnyQL_first {n i : Nat} {oi : Oper} {v : Value} {L : Array Bool → Act → Prop} (hi : ops[i]? = some oi) (hsel : ∀ (j : Nat) (o : Oper) cs b, ops[j]? = some o → o.op ≠ .select cs b)
    (hs : Region.sinkB md ops n = true) (hc : Region.chain2B md ops n = true) (hn : n < ops.size) (hin : i < n)
    (hdone : ∀ listed a, L listed a → ∀ j ∈ Region.ready md ops listed, n ≤ j) :
    ∀ (f : Nat) (listed : Array Bool) (a : Act), HeadInv md ops n listed →
      (∀ j oj, ops[j]? = some oj → j ≠ i → listed.getD j true = false → (∀ e ∈ oj.after, Region.binds md e = true → e.on ≠ i) → oi.apart ops oj = true) →
      i ∈ Region.ready md ops listed → YieldsIn P ops C oi v a →
      wpAnyQL P md ops C n L f (listed.setIfInBounds i true) (a.put oi.dst v) → wpAnyQL P md ops C n L (f + 1) listed a := by
  intro f
  induction f with
  | zero =>
    intro listed a inv _ hr hy H
    have hun := (mem_ready.1 hr).1
    refine ⟨fun h => (by rw [h] at hr; cases hr), fun j hj => ?_⟩
    have hjn : j < n := by
      rcases Nat.lt_or_ge j n with h | h
      · exact h
      · exact absurd hj (tail_waits2 hs hc hn inv _ i rfl hin hun j h)
    refine ⟨hjn, ?_⟩
    by_cases hji : j = i
    · subst hji; exact hy.qOp hi H
    · have := hdone _ _ H j (ready_mono hj hji)
      omega
  | succ f ih =>
    intro listed a inv hfree hr hy H
    have hun := (mem_ready.1 hr).1
    refine ⟨fun h => (by rw [h] at hr; cases hr), fun j hj => ?_⟩
    have hjn : j < n := by
      rcases Nat.lt_or_ge j n with h | h
      · exact h
      · exact absurd hj (tail_waits2 hs hc hn inv _ i rfl hin hun j h)
    refine ⟨hjn, ?_⟩
    by_cases hji : j = i
    · subst hji; exact hy.qOp hi H
    · have h1 := (H.2 j (ready_mono hj hji)).2
      obtain ⟨hjun, oj, hoj, hall⟩ := mem_ready.1 hj
      have hnot : ∀ e ∈ oj.after, Region.binds md e = true → e.on ≠ i := fun e he hb heq => by
        have h1 := hall e he hb
        rw [heq, getD_both hun] at h1
        cases h1
      have h2 := qOp_put hoj (hfree j oj hoj hji hjun hnot) (fun cs b => hsel i oi cs b hi) (fun cs b => hsel j oj cs b hoj) hy h1
      have hfree' : ∀ k ok, ops[k]? = some ok → k ≠ i → (listed.setIfInBounds j true).getD k true = false →
          (∀ e ∈ ok.after, Region.binds md e = true → e.on ≠ i) → oi.apart ops ok = true := fun k ok hk hki hun hno => by
        refine hfree k ok hk hki ?_ hno
        by_cases hjk : j = k
        · subst hjk; exact hjun
        · rw [getD_set_ne true hjk] at hun; exact hun
      refine qOp_mono (fun a' h3 => ih (listed.setIfInBounds j true) a' (inv.set hj hjn) hfree' (ready_mono hr (Ne.symm hji)) h3.1 ?_) h2
      rw [Array.setIfInBounds_comm _ _ hji]
      exact h3.2

/-- The operations from number k on, each free when those ahead of it have come up; all of these listed behind them. -/
def Region.headB (md : Region.Mode) (ops : Array Oper) : Nat → Nat → Array Bool → Bool
  | 0, _, _ => true
  | f + 1, k, listed => (Region.ready md ops listed).contains k && Region.free md ops listed k && Region.headB md ops f (k + 1) (listed.setIfInBounds k true)
def Region.listTo : Nat → Nat → Array Bool → Array Bool
  | 0, _, listed => listed
  | f + 1, k, listed => Region.listTo f (k + 1) (listed.setIfInBounds k true)
theorem wpAnyQL_lex {n : Nat} {Lq : Act → Prop} (hsel : Region.noSelect ops = true) (hs : Region.sinkB md ops n = true) (hc : Region.chain2B md ops n = true) (hn : n < ops.size) (fin : Array Bool) (hfin : ∀ j ∈ Region.ready md ops fin, n ≤ j) :
    ∀ (l : List Oper) (k : Nat) (listed : Array Bool) (a : Act), (∀ j, j < l.length → l[j]? = ops[k + j]?) → k + l.length = n → HeadInv md ops n listed →
    Region.headB md ops l.length k listed = true → Region.listTo l.length k listed = fin → wpQuiet P ops C Lq l a →
    wpAnyQL P md ops C n (fun listed' a' => listed' = fin ∧ Lq a') l.length listed a
  | [], k, listed, a, _, hk, _, hB, hf, h => by
    exact ⟨hf, h⟩
  | o :: l, k, listed, a, hl, hk, inv, hB, hf', h => by
    have h0 : ops[k]? = some o := by simpa using (hl 0 (by simp)).symm
    simp only [List.length_cons, Region.headB, Bool.and_eq_true] at hB
    obtain ⟨⟨hr, hf⟩, hB'⟩ := hB
    have hkn : k < n := by simp only [List.length_cons] at hk; omega
    have hr' : k ∈ Region.ready md ops listed := by simpa using hr
    have hst : qOp P ops C k (wpQuiet P ops C Lq l) a := by unfold qOp; simp only [h0]; exact h
    obtain ⟨v, hy, hK⟩ := yieldsIn_of_qOp h0 hst
    exact wpAnyQL_first h0 (Region.noSelect_spec hsel) hs hc hn hkn (fun listed' a' hL => by rw [hL.1]; exact hfin) l.length listed a inv (Region.free_spec h0 hf) hr' hy
      (wpAnyQL_lex hsel hs hc hn fin hfin l (k + 1) _ _ (fun j hj => by have := hl (j + 1) (by simp; omega); simpa [Nat.add_assoc, Nat.add_comm 1 j] using this) (by simp only [List.length_cons] at hk; omega) (inv.set hr' hkn) hB' hf' hK)
/-- What yields a value whatever the world is. -/
def Oper.sure (P : Program) (o : Oper) (a : Act) (K : Act → Prop) : Prop := ∃ v, (∀ w, (execOp a.eval o).run P w = .ok (.value v) w) ∧ K (a.put o.dst v)
def wpSure (P : Program) (ops : Array Oper) (Q : Act → Prop) : List Oper → Act → Prop
  | [], a => Q a
  | o :: rest, a => if Region.wanted o (yielded ops a.tmps) then o.sure P a (wpSure P ops Q rest) else wpSure P ops Q rest (a.put o.dst undef)
theorem wpSure_nil {Q : Act → Prop} {a : Act} (h : Q a) : wpSure P ops Q [] a := h
theorem wpSure_step {Q : Act → Prop} {a : Act} {o : Oper} {rest : List Oper}
    (h : ∀ K : Act → Prop, (∀ a, wpSure P ops Q rest a → K a) → if Region.wanted o (yielded ops a.tmps) then o.sure P a K else K (a.put o.dst undef)) : wpSure P ops Q (o :: rest) a :=
  h _ (fun _ h => h)
theorem wpAny_of_sure {Q : Exit → Act → World → Prop} (hQ : ∀ c a d v w, Q (.panic c) (Act.put a d v) w → Q (.panic c) a w) (hsel : Region.noSelect ops = true) (g : Nat) (fin : Array Bool) (w : World) :
    ∀ (l : List Oper) (k : Nat) (listed : Array Bool) (a : Act), (∀ j, j < l.length → l[j]? = ops[k + j]?) →
    Region.headB md ops l.length k listed = true → Region.listTo l.length k listed = fin → wpSure P ops (fun a' => wpAny P md ops Q g fin a' w) l a → wpAny P md ops Q (l.length + g) listed a w
  | [], k, listed, a, _, _, hf, h => by
    have hf : listed = fin := hf
    rw [hf]
    show wpAny P md ops Q (0 + g) fin a w
    rw [Nat.zero_add]
    exact h
  | o :: l, k, listed, a, hl, hB, hf', h => by
    have h0 : ops[k]? = some o := by simpa using (hl 0 (by simp)).symm
    simp only [List.length_cons, Region.headB, Bool.and_eq_true] at hB
    obtain ⟨⟨hr, hf⟩, hB'⟩ := hB
    have ih := fun a' => wpAny_of_sure hQ hsel g fin w l (k + 1) (listed.setIfInBounds k true) a' (fun j hj => by have := hl (j + 1) (by simp; omega); simpa [Nat.add_assoc, Nat.add_comm 1 j] using this) hB' hf'
    rw [List.length_cons, show l.length + 1 + g = (l.length + g) + 1 by omega]
    have h' : if Region.wanted o (yielded ops a.tmps) then o.sure P a (wpSure P ops (fun a' => wpAny P md ops Q g fin a' w) l) else wpSure P ops (fun a' => wpAny P md ops Q g fin a' w) l (a.put o.dst undef) := h
    by_cases hw : Region.wanted o (yielded ops a.tmps) = true
    · rw [if_pos hw] at h'
      obtain ⟨v, hv, hK⟩ := h'
      exact wpAny_take h0 hsel hf hr (fun c a' w' => hQ c a' _ _ w') (.inl ⟨hw, hv⟩) (ih _ hK)
    · rw [if_neg hw] at h'
      exact wpAny_take h0 hsel hf hr (fun c a' w' => hQ c a' _ _ w') (.inr ⟨by simpa using hw, rfl⟩) (ih _ h')
/-- All that is asked of a region's text: n operations ahead, m that yield whatever the world is, the rest in one order. -/
def Region.plan (md : Region.Mode) (ops : Array Oper) (n m : Nat) : Bool :=
  let l1 := Region.listTo n 0 (Array.replicate ops.size false)
  let l2 := Region.listTo m n l1
  Region.noSelect ops && decide (n < ops.size) && decide (n + m ≤ ops.size) && Region.sinkB md ops n && Region.chain2B md ops n && Region.headB md ops n 0 (Array.replicate ops.size false) &&
    (Region.ready md ops l1).all (fun j => decide (n ≤ j)) && Region.headB md ops m n l1 && Region.seqB md ops (ops.size - (n + m)) (n + m) l2
theorem wp_region_plan {id : Nat} {Q : Exit → Act → World → Prop} {a : Act} {w : World} {l : List Oper} (n m : Nat) (hm : P.follows .mixedOrders = true) (hB : Region.plan .any l.toArray n m = true)
    (hQ0 : ∀ c a n v w, Q (.panic c) (Act.put a (some n) v) w → Q (.panic c) a w) (hC : C { w with drawn := w.drawn + 1 })
    (h : wpQuiet P l.toArray C (fun a' => ∀ w', C w' → wpSure P l.toArray (fun a2 => wpList P l.toArray Q (l.drop (n + m)) a2 w') ((l.drop n).take m) a') (l.take n) a) : (Code.region id l.toArray true).wp P Q a w := by
  have hQ : ∀ c a d v w, Q (.panic c) (Act.put a d v) w → Q (.panic c) a w := fun c a d v w h => by
    cases d with
    | none => exact h
    | some n => exact hQ0 c a n v w h
  simp only [Region.plan, Bool.and_eq_true, decide_eq_true_eq] at hB
  obtain ⟨⟨⟨⟨⟨⟨⟨⟨hsel, hn⟩, hnm⟩, hs⟩, hc⟩, hhead⟩, hfin⟩, hmid⟩, hseq⟩ := hB
  have hn' : n < l.length := by simpa using hn
  have hnm' : n + m ≤ l.length := by simpa using hnm
  have htl : (l.take n).length = n := by simp; omega
  have hml : ((l.drop n).take m).length = m := by simp; omega
  have hdl : (l.drop (n + m)).length = l.toArray.size - (n + m) := by simp
  have inv0 : HeadInv .any l.toArray n (Array.replicate l.toArray.size false) :=
    ⟨by simp, fun j oj _ hl => (by rw [getD_replicate_false] at hl; cases hl), fun t _ ht => getD_in (by simpa using ht) (getD_replicate_false _ _)⟩
  have hfin' : ∀ j ∈ Region.ready .any l.toArray (Region.listTo n 0 (Array.replicate l.toArray.size false)), n ≤ j := fun j hj => by
    have := List.all_eq_true.1 hfin j hj
    simpa using this
  have H := wpAnyQL_lex (md := .any) hsel hs hc hn _ hfin' (l.take n) 0 _ a (fun j hj => by
    have hj' : j < n := by rw [htl] at hj; exact hj
    simp [hj']) (by simpa using htl) inv0 (by rw [htl]; exact hhead) (by rw [htl]) h
  refine wp_region_any hm ?_
  have := wpAny_of_headQ (Q' := Q) (g := m + (l.toArray.size - (n + m))) (fun listed a' w' hw' hL => by
    have h2 := hL.2 w' hw'
    have h3 := wpAny_of_sure (P := P) (md := .any) (Q := Q) hQ hsel (l.toArray.size - (n + m)) (Region.listTo m n (Region.listTo n 0 (Array.replicate l.toArray.size false))) w' ((l.drop n).take m) n listed a' (fun j hj => by
      have hj' : j < m := by rw [hml] at hj; exact hj
      simp [hj', List.getElem?_drop]) (by rw [hml, hL.1]; exact hmid) (by rw [hml, hL.1])
    rw [hml] at h3
    refine h3 ?_
    have h4 : ∀ a2, wpList P l.toArray Q (l.drop (n + m)) a2 w' → wpAny P .any l.toArray Q (l.toArray.size - (n + m)) (Region.listTo m n (Region.listTo n 0 (Array.replicate l.toArray.size false))) a2 w' := fun a2 h5 => by
      have := wpAny_of_seq (md := .any) (Q' := Q) (l.drop (n + m)) (n + m) (Region.listTo m n (Region.listTo n 0 (Array.replicate l.toArray.size false))) a2 w' (fun j => by simp [List.getElem?_drop]) (by rw [hdl]; exact hseq) h5
      rwa [hdl] at this
    have hmono : ∀ (l' : List Oper) (a' : Act) {K K' : Act → Prop}, (∀ a, K a → K' a) → wpSure P l.toArray K l' a' → wpSure P l.toArray K' l' a' := fun l' => by
      induction l' with
      | nil => exact fun a' K K' hk h => hk _ h
      | cons o rest ih =>
        intro a' K K' hk h
        unfold wpSure at h ⊢
        split
        · rename_i hw
          rw [if_pos hw] at h
          obtain ⟨v, hv, hh⟩ := h
          exact ⟨v, hv, ih _ hk hh⟩
        · rename_i hw
          rw [if_neg hw] at h
          exact ih _ hk h
    exact hmono _ _ h4 h2) _ _ _ _ hC H
  rw [htl, show n + (m + (l.toArray.size - (n + m))) = l.toArray.size by omega] at this
  exact this
theorem wp_region_plan_below {id : Nat} {Q : Exit → Act → World → Prop} {a : Act} {w : World} {l : List Oper} (n m : Nat) (hm : P.follows .mixedOrders = true) (hB : Region.plan .any l.toArray n m = true)
    (hQ : ∀ c a n v w, Q (.panic c) (Act.put a (some n) v) w → Q (.panic c) a w)
    (h : wpQuiet P l.toArray (fun w' => ∃ p : Regrown, w' = Sort.grow (redrawn w p.d) p.os) (fun a' => ∀ w', Below w.heap.size w w' → wpSure P l.toArray (fun a2 => wpList P l.toArray Q (l.drop (n + m)) a2 w') ((l.drop n).take m) a') (l.take n) a) : (Code.region id l.toArray true).wp P Q a w := by
  refine wp_region_plan (C := fun w' => ∃ p : Regrown, w' = Sort.grow (redrawn w p.d) p.os) n m hm hB hQ ⟨⟨w.drawn + 1, #[]⟩, by rw [Sort.grow_empty]; rfl⟩ ?_
  have e : (fun a' => ∀ w', Below w.heap.size w w' → wpSure P l.toArray (fun a2 => wpList P l.toArray Q (l.drop (n + m)) a2 w') ((l.drop n).take m) a') = (fun a' => ∀ w', (∃ p : Regrown, w' = Sort.grow (redrawn w p.d) p.os) → wpSure P l.toArray (fun a2 => wpList P l.toArray Q (l.drop (n + m)) a2 w') ((l.drop n).take m) a') := by
    funext a'
    refine propext ⟨fun h w' ⟨p, hp⟩ => h w' (by rw [hp]; exact below_regrown _ _ _), fun h w' hw' => h w' (regrown_of_below hw')⟩
  rw [← e]
  exact h
end
end Go
