/- What the walk of asks is said in: a lease as four numbers, a slice of leases of the call's own, the answers. Plain lemmas. No condition. -/
import Derived.Test.YtmepidkffpmflaaPLeaseAlonex
import Derived.Test.YtmepidkffpmflaaWMore
import Derived.StillTailTactics
import Derived.Test.YtmepidkffpmflaaQHeld
import Derived.Lib.Hide
import Derived.OpenShut
import Derived.Deep.CutBlock
import Derived.Deep.DeepCutAuto
namespace Go.Proofs.Ytmepidkffpmflaa.PLeaseAlone
open Go.RowKit Go.Proofs.YtmepidkffpmflaaW.PrintWords Go.Proofs.YtmepidkffpmflaaW.PrintLast Go.Proofs.YtmepidkffpmflaaW.PrintMore
set_option linter.unusedVariables false
set_option linter.unusedSimpArgs false
theorem cells6 {W : World} {b t : Nat} {a0 a1 a2 a3 a4 a5 : Value} (h : W.heap[b]? = some (.cells #[a0, a1, a2, a3, a4, a5] t (0, 0))) :
    W.cell? ⟨b, 0, none⟩ = some a0 ∧ W.cell? ⟨b, 1, none⟩ = some a1 ∧ W.cell? ⟨b, 2, none⟩ = some a2 ∧ W.cell? ⟨b, 3, none⟩ = some a3 ∧ W.cell? ⟨b, 4, none⟩ = some a4 ∧ W.cell? ⟨b, 5, none⟩ = some a5 :=
  ⟨(blk_cell h 0).trans rfl, (blk_cell h 1).trans rfl, (blk_cell h 2).trans rfl, (blk_cell h 3).trans rfl, (blk_cell h 4).trans rfl, (blk_cell h 5).trans rfl⟩
theorem cells4 {W : World} {b t : Nat} {a0 a1 a2 a3 : Value} (h : W.heap[b]? = some (.cells #[a0, a1, a2, a3] t (0, 0))) :
    W.cell? ⟨b, 0, none⟩ = some a0 ∧ W.cell? ⟨b, 1, none⟩ = some a1 ∧ W.cell? ⟨b, 2, none⟩ = some a2 ∧ W.cell? ⟨b, 3, none⟩ = some a3 :=
  ⟨(blk_cell h 0).trans rfl, (blk_cell h 1).trans rfl, (blk_cell h 2).trans rfl, (blk_cell h 3).trans rfl⟩
theorem cells5 {W : World} {b t : Nat} {a0 a1 a2 a3 a4 : Value} (h : W.heap[b]? = some (.cells #[a0, a1, a2, a3, a4] t (0, 0))) :
    W.cell? ⟨b, 0, none⟩ = some a0 ∧ W.cell? ⟨b, 1, none⟩ = some a1 ∧ W.cell? ⟨b, 2, none⟩ = some a2 ∧ W.cell? ⟨b, 3, none⟩ = some a3 ∧ W.cell? ⟨b, 4, none⟩ = some a4 :=
  ⟨(blk_cell h 0).trans rfl, (blk_cell h 1).trans rfl, (blk_cell h 2).trans rfl, (blk_cell h 3).trans rfl, (blk_cell h 4).trans rfl⟩

/-- A lease. -/
structure L4 where
  e : Int
  h : Int
  u : Int
  m : Int
deriving DecidableEq
def fl (x : L4) : List Value := [.int .u32 x.e, .int .i64 x.h, .int .u64 x.u, .int .i64 x.m]
def flat (l : List L4) : List Value := (l.map fl).flatten
theorem flat_cons (x : L4) (l : List L4) : flat (x :: l) = fl x ++ flat l := rfl
theorem flat_append (l r : List L4) : flat (l ++ r) = flat l ++ flat r := by simp [flat]
theorem flat_len : ∀ l : List L4, (flat l).length = l.length * 4
  | [] => rfl
  | x :: l => by rw [flat_cons, List.length_append, flat_len l, List.length_cons]; show 4 + _ = _; omega
theorem flat_get : ∀ (l : List L4) (i j : Nat) (h : i < l.length), j < 4 → (flat l)[i * 4 + j]? = (fl l[i])[j]?
  | x :: l, 0, j, _, hj => by
    rw [flat_cons, List.getElem?_append_left (by show 0 * 4 + j < 4; omega)]
    simp
  | x :: l, i + 1, j, h, hj => by
    rw [flat_cons, List.getElem?_append_right (by show 4 ≤ _; omega)]
    have : (i + 1) * 4 + j - (fl x).length = i * 4 + j := by show (i + 1) * 4 + j - 4 = _; omega
    rw [this, flat_get l i j (by simpa using h) hj]
    simp
theorem flat_set : ∀ (l : List L4) (i : Nat) (a : L4), i < l.length → ((((flat l).set (i * 4) (.int .u32 a.e)).set (i * 4 + 1) (.int .i64 a.h)).set (i * 4 + 2) (.int .u64 a.u)).set (i * 4 + 3) (.int .i64 a.m) = flat (l.set i a)
  | x :: l, 0, a, _ => rfl
  | x :: l, i + 1, a, h => by
    have h4 : (i + 1) * 4 = i * 4 + 1 + 1 + 1 + 1 := by omega
    have := flat_set l i a (by simpa using h)
    rw [flat_cons, List.set_cons_succ, flat_cons, ← this, h4]
    rfl
/-- The leases that were seen, in a slice of their own. -/
def Seen (W : World) (base : Nat) (v : Value) (l : List L4) : Prop := W.ownsRow base 25 4 v l.length (flat l)
theorem Seen.keep {W W' : World} {base : Nat} {v : Value} {l : List L4} (h : Seen W base v l) (hk : ∀ g, v.ownBlock = some g → g < W.heap.size → (∃ cur, W.heap[g]? = some (.cells cur 25 (0, 0))) → W'.heap[g]? = W.heap[g]?) : Seen W' base v l := by
  obtain ⟨h1, h2⟩ := h
  refine ⟨h1, ?_⟩
  rcases h2 with h2 | ⟨g, cap, cur, rfl, hg, hh, r⟩
  · exact .inl h2
  · exact .inr ⟨g, cap, cur, rfl, hg, by rw [hk g rfl (blk_lt hh) ⟨cur, hh⟩]; exact hh, r⟩
theorem Seen.below {W W' : World} {base : Nat} {v : Value} {l : List L4} (h : Seen W base v l) (hb : Below W.heap.size W W') : Seen W' base v l := h.keep (fun g _ hg _ => hb.block g hg)
theorem Seen.lt {W : World} {base : Nat} {v : Value} {l : List L4} (h : Seen W base v l) : ∀ g, v.ownBlock = some g → g < W.heap.size := by
  obtain ⟨h1, h2⟩ := h
  rcases h2 with h2 | ⟨g, cap, cur, rfl, hg, hh, r⟩
  · rw [h2.1]; intro g hg; simp [Value.ownBlock] at hg
  · intro g' he
    have : g = g' := by simpa [Value.ownBlock] using he
    rw [← this]; exact blk_lt hh
theorem Seen.set {W : World} {base : Nat} {v : Value} {l : List L4} (h : Seen W base v l) {p : Addr} {u : Value} (hp : v.ownBlock ≠ some p.block) : Seen (W.setCell p u) base v l :=
  h.keep (fun g hg _ _ => Below.heap_setCell W p u g (fun e => hp (by rw [hg, e])))
theorem Seen.ne {W : World} {base : Nat} {v : Value} {l : List L4} (h : Seen W base v l) {b t : Nat} {cs : Array Value} (hb : W.heap[b]? = some (.cells cs t (0, 0))) (ht : t ≠ 25) : v.ownBlock ≠ some b := by
  obtain ⟨h1, h2⟩ := h
  rcases h2 with h2 | ⟨g, cap, cur, rfl, hg, hh, r⟩
  · rw [h2.1]; intro e; cases e
  · intro e
    have e1 : g = b := by simpa [Value.ownBlock] using e
    subst e1
    rw [hh] at hb
    injection hb with hb
    injection hb with _ hb
    exact ht hb.symm
theorem Seen.set2 {W : World} {base : Nat} {v : Value} {l : List L4} (h : Seen W base v l) {b t : Nat} {cs : Array Value} (hb : W.heap[b]? = some (.cells cs t (0, 0))) (ht : t ≠ 25) (j : Nat) (u : Value) : Seen (W.setCell ⟨b, j, none⟩ u) base v l :=
  h.set (h.ne hb ht)
theorem Seen.base {W : World} {base c n g : Nat} {l : List L4} (h : Seen W base (.slice (some ⟨g, 0, none⟩) n c) l) : base ≤ g := by
  obtain ⟨h1, h2⟩ := h
  rcases h2 with h2 | ⟨g', cap, cur, he, hg, hh, r⟩
  · cases h2.1
  · injection he with e1
    injection e1 with e1
    injection e1 with e1
    rw [e1]; exact hg
theorem Seen.form {W : World} {base : Nat} {v : Value} {l : List L4} (h : Seen W base v l) : ∃ A c, v = .slice A l.length c ∧ l.length ≤ c := by
  obtain ⟨h1, h2⟩ := h
  rcases h2 with h2 | ⟨g, cap, cur, rfl, hg, hh, r⟩
  · rw [h2.1, h2.2]; exact ⟨_, _, rfl, Nat.le_refl _⟩
  · exact ⟨_, _, rfl, r.1⟩
theorem Seen.at {W : World} {base c : Nat} {A : Option Addr} {l : List L4} (h : Seen W base (.slice A l.length c) l) (i : Nat) (hi : i < l.length) :
    ∃ g, A = some ⟨g, 0, none⟩ ∧ W.cell? ⟨g, i * 4, none⟩ = some (.int .u32 l[i].e) ∧ W.cell? ⟨g, i * 4 + 1, none⟩ = some (.int .i64 l[i].h) ∧ W.cell? ⟨g, i * 4 + 2, none⟩ = some (.int .u64 l[i].u) ∧ W.cell? ⟨g, i * 4 + 3, none⟩ = some (.int .i64 l[i].m) ∧ (∀ j, W.frozen? ⟨g, j, none⟩ = false) := by
  obtain ⟨h1, h2⟩ := h
  rcases h2 with h2 | ⟨g, cap, cur, he, hg, hh, r1, r2, r3, r4⟩
  · omega
  · injection he with e1 e2 e3
    have hc : ∀ j : Nat, j < 4 → W.cell? ⟨g, i * 4 + j, none⟩ = (fl l[i])[j]? := fun j hj => by
      rw [blk_cell hh, ← flat_get l i j hi hj, ← r4, List.getElem?_take_of_lt (by omega), Array.getElem?_toList]
    exact ⟨g, e1, hc 0 (by omega), hc 1 (by omega), hc 2 (by omega), hc 3 (by omega), fun j => blk_frozen hh j⟩
theorem Seen.put {W : World} {base c g : Nat} {l : List L4} (h : Seen W base (.slice (some ⟨g, 0, none⟩) l.length c) l) (i : Nat) (hi : i < l.length) (a : L4) :
    Seen ((((W.setCell ⟨g, i * 4, none⟩ (.int .u32 a.e)).setCell ⟨g, i * 4 + 1, none⟩ (.int .i64 a.h)).setCell ⟨g, i * 4 + 2, none⟩ (.int .u64 a.u)).setCell ⟨g, i * 4 + 3, none⟩ (.int .i64 a.m)) base (.slice (some ⟨g, 0, none⟩) l.length c) (l.set i a) := by
  unfold Seen
  rw [← flat_set l i a hi, List.length_set]
  exact ((((h.stored _ _).1.stored _ _).1.stored _ _).1.stored _ _).1
theorem Seen.nil (W : World) (base : Nat) : Seen W base (.slice none 0 0) [] := ⟨rfl, .inl ⟨rfl, rfl⟩⟩
/-- The epoch of a holder's last lease. -/
def lastOf (who : Int) : List L4 → Int → Int
  | [], o => o
  | x :: l, o => lastOf who l (if x.h = who then x.e else o)
theorem lastOf_drop (who o : Int) (l : List L4) (i : Nat) (h : i < l.length) : lastOf who (l.drop i) o = lastOf who (l.drop (i + 1)) (if l[i].h = who then l[i].e else o) := by
  rw [List.drop_eq_getElem_cons h]; rfl
theorem info25 : (Try.prog.info? 25).map (fun i => (i.zero, i.size, i.bytes)) = some (some (.agg #[(.int .u32 0), (.int .i64 0), (.int .u64 0), (.int .i64 0)]), 4, 32) := by kernel_rfl
/-- What is asked of whoever grants: the lease that comes out, and the error. -/
def askF (k : Nat) (l : L4) (now kind who len own mode guard : Int) : Option (Int × Int × Int × Int × Int) :=
  if kind = 0 ∨ kind = 1 then lease_Grant.f k l.e l.h l.u l.m now who len guard
  else if kind = 2 ∨ kind = 3 then lease_Renew.f k l.e l.h l.u l.m now who own len
  else if kind = 4 then lease_Turn.f k l.e l.h l.u l.m now who own mode
  else some (l.e, l.h, l.u, l.m, 0)
def nowF (now wait : Int) : Int := IntKind.u64.wrap (now + IntKind.u64.wrap (wait.tmod 40))
theorem put4 {W w4 : World} {b bx ba base : Nat} {w : World} {ob ox : Obj} {l r : L4} {v : Value} {seen : List L4} (hb4 : Below W.heap.size W w4) (BR : W.heap[b]? = some ob) (BX : W.heap[bx]? = some ox)
    (BA : W.heap[ba]? = some (.cells #[.int .u32 l.e, .int .i64 l.h, .int .u64 l.u, .int .i64 l.m] 25 (0,0))) (HB : Below base w W) (HS : Seen W base v seen) (h1 : b ≠ ba) (h2 : bx ≠ ba) (h3 : base ≤ ba) (h4 : v.ownBlock ≠ some ba) :
    let W' := ((((w4.setCell ⟨ba, 0, none⟩ (.int .u32 r.e)).setCell ⟨ba, 1, none⟩ (.int .i64 r.h)).setCell ⟨ba, 2, none⟩ (.int .u64 r.u)).setCell ⟨ba, 3, none⟩ (.int .i64 r.m))
    W'.heap[b]? = some ob ∧ W'.heap[bx]? = some ox ∧ W'.heap[ba]? = some (.cells #[.int .u32 r.e, .int .i64 r.h, .int .u64 r.u, .int .i64 r.m] 25 (0,0)) ∧ Below base w W' ∧ Seen W' base v seen := by
  have e : ∀ k : Nat, k ≠ ba → ((((w4.setCell ⟨ba, 0, none⟩ (.int .u32 r.e)).setCell ⟨ba, 1, none⟩ (.int .i64 r.h)).setCell ⟨ba, 2, none⟩ (.int .u64 r.u)).setCell ⟨ba, 3, none⟩ (.int .i64 r.m)).heap[k]? = w4.heap[k]? := fun k hk => by
    rw [Below.heap_setCell _ _ _ _ hk, Below.heap_setCell _ _ _ _ hk, Below.heap_setCell _ _ _ _ hk, Below.heap_setCell _ _ _ _ hk]
  have hbW := blk_lt BR
  have hxW := blk_lt BX
  have haW := blk_lt BA
  refine ⟨by rw [e b h1, hb4.block b hbW]; exact BR, by rw [e bx h2, hb4.block bx hxW]; exact BX, ?_, ?_, ?_⟩
  · have BA4 := (hb4.block ba haW).trans BA
    exact blk_put (cs := #[.int .u32 r.e, .int .i64 r.h, .int .u64 r.u, .int .i64 l.m]) (blk_put (cs := #[.int .u32 r.e, .int .i64 r.h, .int .u64 l.u, .int .i64 l.m]) (blk_put (cs := #[.int .u32 r.e, .int .i64 l.h, .int .u64 l.u, .int .i64 l.m]) (blk_put BA4 0 _ rfl) 1 _ rfl) 2 _ rfl) 3 _ rfl
  · have H4 : Below base w w4 := HB.trans ⟨hb4.os, hb4.tape, hb4.output, hb4.size, fun k hk => hb4.block k (by omega)⟩
    exact (((H4.setCell (p := ⟨ba, 0, none⟩) h3 _).setCell (p := ⟨ba, 1, none⟩) h3 _).setCell (p := ⟨ba, 2, none⟩) h3 _).setCell (p := ⟨ba, 3, none⟩) h3 _
  · exact (((HS.below hb4).set (p := ⟨ba, 0, none⟩) h4).set (p := ⟨ba, 1, none⟩) h4 |>.set (p := ⟨ba, 2, none⟩) h4).set (p := ⟨ba, 3, none⟩) h4
/-- The lease behind an ask: what came out, if it went well. -/
def leaseF (l r : L4) (er : Int) : L4 := if er = 0 then r else l
def updF (r : L4) (l : List L4) : List L4 := l.map fun x => if x.e = r.e then r else x
theorem upd_len (r : L4) (s : List L4) (i : Nat) (h : i ≤ s.length) : (updF r (s.take i) ++ s.drop i).length = s.length := by
  rw [List.length_append, updF, List.length_map, List.length_take, List.length_drop]; omega
theorem upd_at (r : L4) (s : List L4) (i : Nat) (h : i < s.length) : (updF r (s.take i) ++ s.drop i)[i]? = some s[i] := by
  have hl : (updF r (s.take i)).length = i := by rw [updF, List.length_map, List.length_take]; omega
  rw [List.getElem?_append_right (by omega), hl, Nat.sub_self, List.getElem?_drop, Nat.add_zero, List.getElem?_eq_getElem h]
theorem upd_next (r : L4) (s : List L4) (i : Nat) (h : i < s.length) : updF r (s.take (i + 1)) ++ s.drop (i + 1) = (updF r (s.take i) ++ s.drop i).set i (if s[i].e = r.e then r else s[i]) := by
  have hl : (updF r (s.take i)).length = i := by rw [updF, List.length_map, List.length_take]; omega
  rw [List.set_append_right _ _ (by omega), hl, Nat.sub_self, List.drop_eq_getElem_cons h, List.set_cons_zero]
  have : s.take (i + 1) = s.take i ++ [s[i]] := by rw [List.take_add_one, List.getElem?_eq_getElem h]; rfl
  rw [this]
  unfold updF
  rw [List.map_append, List.append_assoc]
  rfl
theorem set_same {α : Type} (l : List α) (i : Nat) (x : α) (h : l[i]? = some x) : l.set i x = l := by
  apply List.ext_getElem?
  intro j
  by_cases hj : i = j
  · subst hj
    rw [List.getElem?_set_self (by rw [List.getElem?_eq_some_iff] at h; exact h.1), h]
  · rw [List.getElem?_set_ne hj]
/-- The leases that were seen, behind an ask. -/
def seenF (kind : Int) (seen : List L4) (r : L4) (er : Int) : List L4 := if er = 0 then updF r (if kind = 0 ∨ kind = 1 then seen ++ [r] else seen) else seen
end Go.Proofs.Ytmepidkffpmflaa.PLeaseAlone
