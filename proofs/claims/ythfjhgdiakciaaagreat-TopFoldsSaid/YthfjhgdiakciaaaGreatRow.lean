/- What is on the disk is all: a journal's entries, behind any crash that keeps nothing of what was not flushed, come to just the ledger that the flushed ones come to; and a ledger that goes on from there is as one that was never down: for every input the law returns true. No condition. -/
import Derived.Test.YthfjhgdiakciaaaGreatRows
import Derived.Test.YthfjhgdiakciaaaGreatM33
import Derived.WalkKit
import Derived.ProofKit
import Derived.OpenShut
import Derived.ShutString
import Derived.ChangeOld
import Derived.Below
import Derived.Carry
import Derived.SizedLaws
import Derived.Lib.SmallJoins
import Derived.Deep.Slices
import Derived.Deep.Fields
import Derived.ChangeSame
namespace Go.Proofs.YthfjhgdiakciaaaGreat.topFolds
open Go.ChangeShapes Go.WideShapes Go.ChangeAt Go.RowKit Go.Joins Go.Deep
open Go.ChangeMaps (open_string shut_string)
set_option linter.unusedVariables false
set_option linter.unusedSimpArgs false
section
variable {H : Type} {enc : TypeId × Value → H} {P : Program} {w : World} {base : Nat} {spare : Nat → Bool} {held : Bool}
theorem open_slice_fields {t e : TypeId} {fs : Array Field} {fuel : Nat} {cs : List Value} {x : DataW H × List MemPlace} (ht : P.underlying t = some (.slice e)) (he : P.underlying e = some (.struct fs))
    (hone : oneCellFields P fs = true) (hC : P.cellsOf e = fs.size) (h : DataW.trod enc P w base spare held fuel t cs = some x) :
    (cs = [.slice none 0 0] ∧ x = (.nil, [])) ∨
    ∃ (a : Addr) (len cap m : Nat) (D : Nat → DataW H) (Pl : Nat → List MemPlace), cs = [.slice (some a) len cap] ∧ base ≤ a.block ∧ len ≤ cap ∧ cap ≤ maxLen ∧ m = (if spare a.block then cap else len) ∧
      x = (.slice ((List.range len).map D) ((List.range (m - len)).map fun j => D (len + j)), MemPlace.row a (m * fs.size) ++ (List.range m).flatMap Pl) ∧
      ∀ i, i < m → ∃ (ys : List (DataW H × List MemPlace)) (n : Nat), D i = .agg (ys.map (·.1)) ∧ Pl i = ys.flatMap (·.2) ∧ ys.length = fs.size ∧
        ∀ (j : Nat) (f : Field), fs[j]? = some f → ∃ (v : Value) (y : DataW H × List MemPlace), w.cell? (a.add (i * fs.size + j)) = some v ∧ ys[j]? = some y ∧ DataW.trod enc P w base spare held n f.type [v] = some y := by
  rcases open_slice ht h with h0 | ⟨a, len, cap, m, n, D, Pl, hcs, hb, hl, hm, hmm, hx, hi⟩
  · exact .inl h0
  · refine .inr ⟨a, len, cap, m, D, Pl, hcs, hb, hl, hm, hmm, by rw [hC] at hx; exact hx, fun i him => ?_⟩
    obtain ⟨cs', hc, ht'⟩ := hi i him
    rw [hC] at hc
    obtain ⟨ys, n', hn', hy, hlen, hyl, hf⟩ := DataW.trod_struct he ht'
    obtain ⟨_, hcl, hat⟩ := World.cells?_some hc
    simp only [Prod.mk.injEq] at hy
    refine ⟨ys, n', hy.1, hy.2, hyl, fun j f hj => ?_⟩
    obtain ⟨ho, hk⟩ := hone_of hone j f hj
    have hjl : j < fs.size := (Array.getElem?_eq_some_iff.1 hj).1
    have hcell := hat j hjl
    have hv : cs'[j]? = some (cs'[j]'(by omega)) := List.getElem?_eq_getElem (by omega)
    have h1 := hf j f hj
    rw [ho, hk] at h1
    have hone' : (cs'.drop j).take 1 = [cs'[j]'(by omega)] := by
      rw [List.drop_eq_getElem_cons (by omega)]
      rfl
    rw [hone'] at h1
    have hys : ys[j]? = some (ys[j]'(by omega)) := List.getElem?_eq_getElem (by omega)
    refine ⟨_, _, ?_, hys, h1.trans hys⟩
    rw [← Go.Deep.add_add, hcell, hv]
end
theorem cells45 : Tryz.prog.cellsOf 45 = 5 := by kernel_rfl
/-- A list out of what is known of each index. -/
theorem list_of {α : Type} (p : Nat → α → Prop) : ∀ n : Nat, (∀ i, i < n → ∃ x, p i x) → ∃ l : List α, l.length = n ∧ ∀ i x, l[i]? = some x → p i x
  | 0, _ => ⟨[], rfl, fun i x h => by simp at h⟩
  | n + 1, h => by
    obtain ⟨l, hl, hp⟩ := list_of p n (fun i hi => h i (by omega))
    obtain ⟨x, hx⟩ := h n (by omega)
    refine ⟨l ++ [x], by simp [hl], fun i y hy => ?_⟩
    rcases Nat.lt_or_ge i n with hi | hi
    · rw [List.getElem?_append_left (by omega)] at hy
      exact hp i y hy
    · have hlt := (List.getElem?_eq_some_iff.1 hy).1
      have hi' : i = n := by simp [hl] at hlt; omega
      subst hi'
      rw [List.getElem?_append_right (by omega)] at hy
      simp [hl] at hy
      subst hy
      exact hx
set_option maxRecDepth 100000 in
theorem open_moves {H : Type} {enc : TypeId × Value → H} {w : World} {base b0 : Nat} {r : Reach} {v : Value} {d : DataW H} {p : List MemPlace} (hv : Value.okWide Tryz.prog w r b0 22 v) (h : DataW.Trod enc Tryz.prog w base (fun _ => true) true 22 v d p) (hlt : ∀ x ∈ p, x.block < w.heap.size) :
    ∃ (A : Option Addr) (c : Nat) (l : List Bl.Mv), v = .slice A l.length c ∧ l.length ≤ 9223372036854775807 ∧ Bl.Moves w A l := by
  obtain ⟨a0, len, cap, rfl⟩ := okWide_slice Tryz.underlying22 hv
  obtain ⟨fuel, hf⟩ := h
  rcases open_slice_fields Tryz.underlying22 Tryz.underlying45 (by kernel_rfl) cells45 hf with ⟨hcs, _⟩ | ⟨a, len', cap', m, D, Pl, hcs, _, hl, hm, hmm, _, hi⟩
  · have h1 : Value.slice a0 len cap = .slice none 0 0 := by simpa [Value.cells] using hcs
    injection h1 with h1 h2 h3
    subst h1 h2 h3
    exact ⟨none, 0, [], rfl, by simp, fun i hi => by simp at hi⟩
  · have h1 : Value.slice a0 len cap = .slice (some a) len' cap' := by simpa [Value.cells] using hcs
    injection h1 with h1 h2 h3
    subst h1 h2 h3
    have hm' : m = cap := by simpa using hmm
    obtain ⟨l, hll, hlp⟩ := list_of (fun i (x : Bl.Mv) => w.cell? (a.add (i * 5)) = some (.int .i64 x.kind) ∧ w.cell? (a.add (i * 5 + 1)) = some (.int .i64 x.who) ∧ w.cell? (a.add (i * 5 + 2)) = some (.int .i64 x.n) ∧ w.cell? (a.add (i * 5 + 3)) = some (.int .i64 x.key) ∧ w.cell? (a.add (i * 5 + 4)) = some (.int .i64 x.plan)) len (fun i hlt => by
      obtain ⟨ys, n, _, _, _, hg⟩ := hi i (by omega)
      obtain ⟨v0, y0, hc0, _, ht0⟩ := hg 0 _ rfl
      obtain ⟨v1, y1, hc1, _, ht1⟩ := hg 1 _ rfl
      obtain ⟨v2, y2, hc2, _, ht2⟩ := hg 2 _ rfl
      obtain ⟨v3, y3, hc3, _, ht3⟩ := hg 3 _ rfl
      obtain ⟨v4, y4, hc4, _, ht4⟩ := hg 4 _ rfl
      obtain ⟨e0, he0, _, _⟩ := DataW.trod_int Tryz.underlying3 ht0
      obtain ⟨e1, he1, _, _⟩ := DataW.trod_int Tryz.underlying3 ht1
      obtain ⟨e2, he2, _, _⟩ := DataW.trod_int Tryz.underlying3 ht2
      obtain ⟨e3, he3, _, _⟩ := DataW.trod_int Tryz.underlying3 ht3
      obtain ⟨e4, he4, _, _⟩ := DataW.trod_int Tryz.underlying3 ht4
      simp only [List.cons.injEq, and_true] at he0 he1 he2 he3 he4
      subst he0 he1 he2 he3 he4
      exact ⟨⟨e0, e1, e2, e3, e4⟩, hc0, hc1, hc2, hc3, hc4⟩)
    subst hll
    refine ⟨some a, cap, l, rfl, by unfold maxLen at hm; omega, fun i hlt => ?_⟩
    obtain ⟨h0, h1, h2, h3, h4⟩ := hlp i l[i] (List.getElem?_eq_getElem hlt)
    obtain ⟨k0, _⟩ := hlp 0 l[0] (List.getElem?_eq_getElem (by omega))
    obtain ⟨ab, ao, asp⟩ := a
    obtain rfl : asp = none := by
      cases asp with
      | none => rfl
      | some s =>
        simp only [Nat.zero_mul] at k0
        rw [show (Addr.mk ab ao (some s)).add 0 = ⟨ab, ao, some s⟩ from rfl] at k0
        simp [World.cell?] at k0
        split at k0 <;> simp at k0
    have hb := block_lt_of_cell h0
    rw [Addr.add_mid] at h0 h1 h2 h3 h4 hb
    exact ⟨ab, ao, rfl, hb, h0, by rw [Nat.add_assoc]; exact h1, by rw [Nat.add_assoc]; exact h2, by rw [Nat.add_assoc]; exact h3, by rw [Nat.add_assoc]; exact h4⟩
/-- What was read of the arguments reads behind the call as it did. -/
theorem below_trodAll {H : Type} {enc : TypeId × Value → H} {P : Program} (hl : laidOutB P = true) {W W' : World} (hb : Below W.heap.size W W') :
    ∀ (ts : List TypeId) (vs : List Value) (ds : List (DataW H)) (ps : List MemPlace), ts.all (fun t => P.readableRec t && decide (t < P.types.size)) = true → DataW.TrodAll enc P W 0 (fun _ => true) true ts vs ds ps → (∀ x ∈ ps, x.block < W.heap.size) →
      DataW.TrodAll enc P W' 0 (fun b => decide (b < W.heap.size)) true ts vs ds ps := by
  intro ts
  induction ts with
  | nil =>
    intro vs ds ps _ h _
    obtain ⟨rfl, rfl, rfl⟩ := trodAll_nil h
    exact trodAll_mk0
  | cons t ts ih =>
    intro vs ds ps ht h hlt
    obtain ⟨v, vs', d, ds', p, q, rfl, rfl, rfl, h0, h1⟩ := trodAll_cons h
    simp only [List.all_cons, Bool.and_eq_true, decide_eq_true_eq] at ht
    exact trodAll_cons_mk (Below.trod hl ht.1.1 ht.1.2 h0 hb fun x hx => hlt x (List.mem_append.2 (.inl hx))) (ih _ _ _ ht.2 h1 fun x hx => hlt x (List.mem_append.2 (.inr hx)))
theorem own : ownKnob Tryz.prog.godebug = none := by kernel_rfl
theorem laid : laidOutB Tryz.prog = true := by kernel_rfl
set_option maxRecDepth 100000 in
theorem lifted (os : Os) (started : os.Started) (H : Type) (enc : TypeId × Value → H) :
    ReturnsInHanded {} Tryz.checked os 3 .any (Rows.topFoldsSpec.pre6 enc Tryz.prog Tryz.f3 Rows.topFoldsRow.domain false) (Rows.topFoldsSpec.post enc Tryz.prog Tryz.f3 false true false false) := by
  refine returnsInHanded_of_change_sized (C := Tryz.checked) own started (by kernel_rfl) Tryz.func3
    (ChangeSpec.witness6 (enc := enc) (C := Tryz.checked) false ⟨#[], #[.slice none 0 0, .int .i64 0], []⟩ 8 (by kernel_rfl) (by kernel_rfl) (by kernel_rfl) (by kernel_rfl)) ?_
  intro W base args ds gs before hval0 hW hcnd hsz0 _
  have hsz : (DataW.weightsEach Tryz.prog (Tryz.f3.params.toList ++ Rows.topFoldsSpec.plain.varTypes Tryz.prog) (ds ++ gs)).all (· ≤ reachBytes) = true := hsz0
  have hval : ∀ (j : Nat) t v, Tryz.f3.params[j]? = some t → args[j]? = some v → Value.okWide Tryz.prog W .any base t v := hval0
  have hW' := hW
  obtain ⟨p, q, hA0, hV, rfl, hfz, hnd⟩ := hW
  have hA : DataW.TrodAll enc Tryz.prog W 0 (fun _ => true) true Tryz.f3.params.toList args.toList ds p := hA0
  have hA1 := hA
  rw [Tryz.params3] at hA hval hsz
  obtain ⟨v0, vs0, d0, ds0, p0, q0, hargs, rfl, rfl, h0, r0⟩ := trodAll_cons hA
  obtain ⟨v1, vs1, d1, ds1, p1, q1, rfl, rfl, rfl, h1, r1⟩ := trodAll_cons r0
  obtain ⟨rfl, rfl, rfl⟩ := trodAll_nil r1
  obtain rfl : args = #[v0, v1] := by cases args; simp_all
  obtain ⟨rfl, rfl⟩ := trodVars_none hV
  obtain ⟨A, c, l, rfl, hll, hra⟩ := open_moves (hval 0 22 v0 rfl rfl) h0 (fun x hx => by have := hW'.lt x (by simp [hx]); simpa using this)
  obtain ⟨x, rfl, hd1, hp1, wx⟩ := open_int Tryz.underlying3 (hval 1 3 v1 rfl rfl) h1
  clear hA0 hval0 hsz0
  refine (Bl.top_a A c l x W hra hll).mono fun e0 W' ⟨he, bel⟩ => ?_
  subst he
  exact ⟨_, rfl, _, _, _, [], _, [], hW', trodAll_mk1 (shut_bool Tryz.underlying4 _), below_trodAll laid bel _ _ _ _ (by kernel_rfl) hA1 (fun x hx => by have := hW'.lt x (by simpa using hx); simpa using this), rfl, bel.frame _, fun h => by cases h⟩
theorem over : Rows.topFoldsRow.holds Tryz.pinned (OpenSpec.ofChange Rows.topFoldsSpec) :=
  OpenClaim.holds_of_wide 3 Tryz.f3 rfl rfl rfl rfl rfl rfl rfl ⟨rfl, rfl, rfl, rfl, rfl⟩ rfl rfl rfl rfl rfl (by kernel_rfl) Tryz.func3 (by kernel_rfl)
    (of_decide_eq_true (by kernel_rfl)) (by unfold Func.isWrapper; first | (rw [if_pos (by decide +kernel)]; kernel_rfl) | (rw [if_neg (by decide +kernel)]; exact ⟨rfl, rfl⟩))
    (fun os started H enc _ => lifted os started H enc)
theorem proved : Rows.TopFoldsSaid := over
end Go.Proofs.YthfjhgdiakciaaaGreat.topFolds
namespace Go.Proofs.YthfjhgdiakciaaaGreat
/-- The row, under a short name, for the claim. -/
theorem topFolds_holds : Rows.TopFoldsSaid := topFolds.proved
end Go.Proofs.YthfjhgdiakciaaaGreat
