/- The arguments of the laws of layer 15, opened: a slice of acts, a slice of bytes. No condition. -/
import Derived.Test.YtfhnhkjbfaieiaaRows
import Derived.Test.YtfhnhkjbfaieiaaL0
import Derived.WalkKit
import Derived.ProofKit
import Derived.OpenShut
import Derived.ShutString
import Derived.ChangeOld
import Derived.Below
import Derived.Carry
import Derived.SizedLaws
import Derived.Lib.SmallJoins
import Derived.Deep.Slices
import Derived.Deep.Fields
import Derived.ChangeSame
namespace Go.Proofs.Ytfhnhkjbfaieiaa.Bl
open Go.ChangeShapes Go.WideShapes Go.ChangeAt Go.RowKit Go.Joins Go.Deep
open Go.ChangeMaps (open_string shut_string)
set_option linter.unusedVariables false
set_option linter.unusedSimpArgs false
section
variable {H : Type} {enc : TypeId × Value → H} {P : Program} {w : World} {base : Nat} {spare : Nat → Bool} {held : Bool}
theorem open_slice_fields {t e : TypeId} {fs : Array Field} {fuel : Nat} {cs : List Value} {x : DataW H × List MemPlace} (ht : P.underlying t = some (.slice e)) (he : P.underlying e = some (.struct fs))
    (hone : oneCellFields P fs = true) (hC : P.cellsOf e = fs.size) (h : DataW.trod enc P w base spare held fuel t cs = some x) :
    (cs = [.slice none 0 0] ∧ x = (.nil, [])) ∨
    ∃ (a : Addr) (len cap m : Nat) (D : Nat → DataW H) (Pl : Nat → List MemPlace), cs = [.slice (some a) len cap] ∧ base ≤ a.block ∧ len ≤ cap ∧ cap ≤ maxLen ∧ m = (if spare a.block then cap else len) ∧
      x = (.slice ((List.range len).map D) ((List.range (m - len)).map fun j => D (len + j)), MemPlace.row a (m * fs.size) ++ (List.range m).flatMap Pl) ∧
      ∀ i, i < m → ∃ (ys : List (DataW H × List MemPlace)) (n : Nat), D i = .agg (ys.map (·.1)) ∧ Pl i = ys.flatMap (·.2) ∧ ys.length = fs.size ∧
        ∀ (j : Nat) (f : Field), fs[j]? = some f → ∃ (v : Value) (y : DataW H × List MemPlace), w.cell? (a.add (i * fs.size + j)) = some v ∧ ys[j]? = some y ∧ DataW.trod enc P w base spare held n f.type [v] = some y := by
  rcases open_slice ht h with h0 | ⟨a, len, cap, m, n, D, Pl, hcs, hb, hl, hm, hmm, hx, hi⟩
  · exact .inl h0
  · refine .inr ⟨a, len, cap, m, D, Pl, hcs, hb, hl, hm, hmm, by rw [hC] at hx; exact hx, fun i him => ?_⟩
    obtain ⟨cs', hc, ht'⟩ := hi i him
    rw [hC] at hc
    obtain ⟨ys, n', hn', hy, hlen, hyl, hf⟩ := DataW.trod_struct he ht'
    obtain ⟨_, hcl, hat⟩ := World.cells?_some hc
    simp only [Prod.mk.injEq] at hy
    refine ⟨ys, n', hy.1, hy.2, hyl, fun j f hj => ?_⟩
    obtain ⟨ho, hk⟩ := hone_of hone j f hj
    have hjl : j < fs.size := (Array.getElem?_eq_some_iff.1 hj).1
    have hcell := hat j hjl
    have hv : cs'[j]? = some (cs'[j]'(by omega)) := List.getElem?_eq_getElem (by omega)
    have h1 := hf j f hj
    rw [ho, hk] at h1
    have hone' : (cs'.drop j).take 1 = [cs'[j]'(by omega)] := by
      rw [List.drop_eq_getElem_cons (by omega)]
      rfl
    rw [hone'] at h1
    have hys : ys[j]? = some (ys[j]'(by omega)) := List.getElem?_eq_getElem (by omega)
    refine ⟨_, _, ?_, hys, h1.trans hys⟩
    rw [← Go.Deep.add_add, hcell, hv]
end
theorem cells30 : Try.prog.cellsOf 30 = 4 := by kernel_rfl
theorem cells5 : Try.prog.cellsOf 5 = 1 := by kernel_rfl
/-- A list out of what is known of each index. -/
theorem list_of {α : Type} (p : Nat → α → Prop) : ∀ n : Nat, (∀ i, i < n → ∃ x, p i x) → ∃ l : List α, l.length = n ∧ ∀ i x, l[i]? = some x → p i x
  | 0, _ => ⟨[], rfl, fun i x h => by simp at h⟩
  | n + 1, h => by
    obtain ⟨l, hl, hp⟩ := list_of p n (fun i hi => h i (by omega))
    obtain ⟨x, hx⟩ := h n (by omega)
    refine ⟨l ++ [x], by simp [hl], fun i y hy => ?_⟩
    rcases Nat.lt_or_ge i n with hi | hi
    · rw [List.getElem?_append_left (by omega)] at hy
      exact hp i y hy
    · have hlt := (List.getElem?_eq_some_iff.1 hy).1
      have hi' : i = n := by simp [hl] at hlt; omega
      subst hi'
      rw [List.getElem?_append_right (by omega)] at hy
      simp [hl] at hy
      subst hy
      exact hx
theorem spot_none {w : World} {a : Addr} {v : Value} (h : w.cell? (a.add 0) = some v) : a.spot = none := by
  obtain ⟨ab, ao, asp⟩ := a
  cases asp with
  | none => rfl
  | some s =>
    rw [show (Addr.mk ab ao (some s)).add 0 = ⟨ab, ao, some s⟩ from rfl] at h
    simp [World.cell?] at h
    split at h <;> simp at h
theorem open_acts {H : Type} {enc : TypeId × Value → H} {w : World} {base b0 : Nat} {r : Reach} {v : Value} {d : DataW H} {p : List MemPlace} (hv : Value.okWide Try.prog w r b0 22 v) (h : DataW.Trod enc Try.prog w base (fun _ => true) true 22 v d p) :
    ∃ (A : Option Addr) (c : Nat) (l : List Ac), v = .slice A l.length c ∧ l.length ≤ c ∧ l.length ≤ 9223372036854775807 ∧ Acts w A l := by
  obtain ⟨a0, len, cap, rfl⟩ := okWide_slice Try.underlying22 hv
  obtain ⟨fuel, hf⟩ := h
  rcases open_slice_fields Try.underlying22 Try.underlying30 (by kernel_rfl) cells30 hf with ⟨hcs, _⟩ | ⟨a, len', cap', m, D, Pl, hcs, _, hl, hm, hmm, _, hi⟩
  · have h1 : Value.slice a0 len cap = .slice none 0 0 := by simpa [Value.cells] using hcs
    injection h1 with h1 h2 h3
    subst h1 h2 h3
    exact ⟨none, 0, [], rfl, Nat.le_refl _, by simp, fun i hi => by simp at hi⟩
  · have h1 : Value.slice a0 len cap = .slice (some a) len' cap' := by simpa [Value.cells] using hcs
    injection h1 with h1 h2 h3
    subst h1 h2 h3
    have hm' : m = cap := by simpa using hmm
    obtain ⟨l, hll, hlp⟩ := list_of (fun i (x : Ac) => w.cell? (a.add (i * 4)) = some (.int .i64 x.kind) ∧ w.cell? (a.add (i * 4 + 1)) = some (.int .i64 x.pos) ∧ w.cell? (a.add (i * 4 + 2)) = some (.int .i64 x.n) ∧ w.cell? (a.add (i * 4 + 3)) = some (.int .u8 x.fill) ∧ (Lit.int .i64 x.pos).wf = true ∧ (Lit.int .u8 x.fill).wf = true ∧ (Lit.int .i64 x.n).wf = true) len (fun i hlt => by
      obtain ⟨ys, n, _, _, _, hg⟩ := hi i (by omega)
      obtain ⟨v0, y0, hc0, _, ht0⟩ := hg 0 _ rfl
      obtain ⟨v1, y1, hc1, _, ht1⟩ := hg 1 _ rfl
      obtain ⟨v2, y2, hc2, _, ht2⟩ := hg 2 _ rfl
      obtain ⟨v3, y3, hc3, _, ht3⟩ := hg 3 _ rfl
      obtain ⟨e0, he0, _, we0⟩ := DataW.trod_int Try.underlying3 ht0
      obtain ⟨e1, he1, _, we1⟩ := DataW.trod_int Try.underlying3 ht1
      obtain ⟨e2, he2, _, we2⟩ := DataW.trod_int Try.underlying3 ht2
      obtain ⟨e3, he3, _, we3⟩ := DataW.trod_int Try.underlying5 ht3
      simp only [List.cons.injEq, and_true] at he0 he1 he2 he3
      subst he0 he1 he2 he3
      exact ⟨⟨e0, e1, e2, e3⟩, hc0, hc1, hc2, hc3, we1, we3, we2⟩)
    subst hll
    refine ⟨some a, cap, l, rfl, hl, by unfold maxLen at hm; omega, fun i hlt => ?_⟩
    obtain ⟨h0, h1, h2, h3, w1, w3, w2⟩ := hlp i l[i] (List.getElem?_eq_getElem hlt)
    obtain ⟨k0, _⟩ := hlp 0 l[0] (List.getElem?_eq_getElem (by omega))
    have k1 := bounds_i64 w1
    have k2 := bounds_i64 w2
    have k3 := bounds_u8 w3
    rw [Nat.zero_mul] at k0
    have hsp := spot_none k0
    obtain ⟨ab, ao, asp⟩ := a
    obtain rfl : asp = none := hsp
    have hb := block_lt_of_cell h0
    rw [Addr.add_mid] at h0 h1 h2 h3 hb
    exact ⟨ab, ao, rfl, hb, h0, by rw [Nat.add_assoc]; exact h1, by rw [Nat.add_assoc]; exact h2, by rw [Nat.add_assoc]; exact h3, by omega, by omega, by omega, by omega, by omega, by omega⟩
theorem open_bytes {H : Type} {enc : TypeId × Value → H} {w : World} {base b0 : Nat} {r : Reach} {v : Value} {d : DataW H} {p : List MemPlace} (hv : Value.okWide Try.prog w r b0 33 v) (h : DataW.Trod enc Try.prog w base (fun _ => true) true 33 v d p) :
    ∃ (A : Option Addr) (c : Nat) (l : List Int), v = .slice A l.length c ∧ l.length ≤ c ∧ l.length ≤ 9223372036854775807 ∧ Bytes w A l := by
  obtain ⟨a0, len, cap, rfl⟩ := okWide_slice Try.underlying33 hv
  obtain ⟨fuel, hf⟩ := h
  rcases open_ints Try.underlying33 Try.underlying5 cells5 hf with ⟨hcs, _⟩ | ⟨a, len', cap', zs, hcs, _, hl, hm, hz, hx, hcell, hwf⟩
  · have h1 : Value.slice a0 len cap = .slice none 0 0 := by simpa [Value.cells] using hcs
    injection h1 with h1 h2 h3
    subst h1 h2 h3
    exact ⟨none, 0, [], rfl, Nat.le_refl _, by simp, (fun y hy => by cases hy), fun h => absurd rfl h⟩
  · have h1 : Value.slice a0 len cap = .slice (some a) len' cap' := by simpa [Value.cells] using hcs
    injection h1 with h1 h2 h3
    subst h1 h2 h3
    have hz' : zs.length = cap := by simpa using hz
    have hlen : (zs.take len).length = len := by rw [List.length_take]; omega
    refine ⟨some a, cap, zs.take len, by rw [hlen], by omega, by unfold maxLen at hm; omega, fun y hy => ?_, fun hne => ?_⟩
    · have := bounds_u8 (hwf y (List.mem_of_mem_take hy))
      omega
    · have h0 : 0 < len := by
        rcases Nat.eq_zero_or_pos len with h | h
        · subst h; simp at hne
        · exact h
      have hsp := spot_none (hcell 0 (by omega))
      obtain ⟨ab, ao, asp⟩ := a
      obtain rfl : asp = none := hsp
      have hb := block_lt_of_cell (hcell 0 (by omega))
      rw [Addr.add_mid] at hb
      refine ⟨ab, ao, rfl, hb, fun j u hu => ?_⟩
      rw [bv_get, List.getElem?_take] at hu
      split at hu
      · have hj : j < zs.length := by omega
        have := hcell j hj
        rw [Addr.add_mid] at this
        rw [this]
        rw [List.getElem?_eq_getElem hj] at hu
        simp only [Option.map_some] at hu
        rw [← hu, List.getD, List.getElem?_eq_getElem hj]
        rfl
      · cases hu
/-- What was read of the arguments reads behind the call as it did. -/
theorem below_trodAll {H : Type} {enc : TypeId × Value → H} {P : Program} (hl : laidOutB P = true) {W W' : World} (hb : Below W.heap.size W W') :
    ∀ (ts : List TypeId) (vs : List Value) (ds : List (DataW H)) (ps : List MemPlace), ts.all (fun t => P.readableRec t && decide (t < P.types.size)) = true → DataW.TrodAll enc P W 0 (fun _ => true) true ts vs ds ps → (∀ x ∈ ps, x.block < W.heap.size) →
      DataW.TrodAll enc P W' 0 (fun b => decide (b < W.heap.size)) true ts vs ds ps := by
  intro ts
  induction ts with
  | nil =>
    intro vs ds ps _ h _
    obtain ⟨rfl, rfl, rfl⟩ := trodAll_nil h
    exact trodAll_mk0
  | cons t ts ih =>
    intro vs ds ps ht h hlt
    obtain ⟨v, vs', d, ds', p, q, rfl, rfl, rfl, h0, h1⟩ := trodAll_cons h
    simp only [List.all_cons, Bool.and_eq_true, decide_eq_true_eq] at ht
    exact trodAll_cons_mk (Below.trod hl ht.1.1 ht.1.2 h0 hb fun x hx => hlt x (List.mem_append.2 (.inl hx))) (ih _ _ _ ht.2 h1 fun x hx => hlt x (List.mem_append.2 (.inr hx)))
theorem own_knob : ownKnob Try.prog.godebug = none := by kernel_rfl
theorem laid_out : laidOutB Try.prog = true := by kernel_rfl
end Go.Proofs.Ytfhnhkjbfaieiaa.Bl
