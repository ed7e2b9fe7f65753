/- The plain law: the disk and the document's disk go side by side (Link). Condition: both are sound. -/
import Derived.Test.YtfhnhkjbfaieiaaR5
namespace Go.Proofs.Ytfhnhkjbfaieiaa.Bl
open Go.RowKit
set_option linter.unusedVariables false
set_option linter.unusedSimpArgs false
def blocksF (n : Nat) (l : List RW) : List (List Int) := (List.range n).map (fun k => rvalF l k zero64)
structure Link (n : Nat) (s : St) (r : RSt) : Prop where
  sure : s.sure = blocksF n r.sure
  now : s.now = blocksF n (r.sure ++ r.wait)
  wait : s.wait = r.wait.map (fun x => ⟨x.pos, x.b⟩)
  limit : s.limit = r.limit
  left : s.left = r.left
  dark : s.dark = r.dim
theorem blocksF_len (n : Nat) (l : List RW) : (blocksF n l).length = n := by simp [blocksF]
theorem blocksF_get (n : Nat) (l : List RW) (k : Nat) (h : k < n) : (blocksF n l)[k]? = some (rvalF l k zero64) := by simp [blocksF, h]
theorem blocksF_set (n : Nat) (l : List RW) (x : RW) (hx : x.pos < n) : (blocksF n l).set x.pos (over (rvalF l x.pos zero64) x.b) = blocksF n (l ++ [x]) := by
  apply List.ext_getElem?
  intro k
  rw [List.getElem?_set]
  by_cases hk : k < n
  · rw [blocksF_get _ _ _ hk, blocksF_get _ _ _ hk, rvalF_app, rvalF_one]
    by_cases e : x.pos = k
    · subst e
      rw [if_pos rfl, if_pos (by rw [blocksF_len]; exact hk), if_pos rfl]
    · rw [if_neg e, if_neg e]
  · have h1 : (blocksF n l)[k]? = none := List.getElem?_eq_none (by rw [blocksF_len]; omega)
    have h2 : (blocksF n (l ++ [x]))[k]? = none := List.getElem?_eq_none (by rw [blocksF_len]; omega)
    rw [h1, h2, if_neg (by omega)]
theorem crash_link (n c : Nat) (hc : c ≤ 64) : ∀ (w : List RW) (keep : Int) (l : List RW), (∀ x ∈ w, x.pos < n ∧ x.b.length = 64) → (∀ x ∈ l, x.b.length ≤ 64) →
    crashL c (w.map (fun x => ⟨x.pos, x.b⟩)) keep (blocksF n l) = blocksF n (l ++ w.take keep.toNat ++ (match w[keep.toNat]? with | some x => [x.cut c] | none => []))
  | [], keep, l, _, _ => by simp [crashL]
  | x :: w, keep, l, h, hl => by
    obtain ⟨hp, h64⟩ := h x List.mem_cons_self
    rw [List.map_cons, crashL]
    by_cases hk : keep ≤ 0
    · rw [if_pos hk, show keep.toNat = 0 by omega]
      show (blocksF n l).set x.pos (over ((blocksF n l).getD x.pos []) (x.b.take c)) = blocksF n (l ++ [] ++ [x.cut c])
      rw [List.append_nil, List.getD, blocksF_get _ _ _ hp]
      exact blocksF_set n l (x.cut c) hp
    · rw [if_neg hk]
      have h1 : (blocksF n l).set x.pos x.b = blocksF n (l ++ [x]) := by
        rw [← blocksF_set n l x hp, over_full _ _ (by rw [h64, rvalF_len _ _ _ hl zero64_len])]
      show crashL c _ (keep - 1) ((blocksF n l).set x.pos x.b) = _
      rw [h1, crash_link n c hc w (keep - 1) (l ++ [x]) (fun y hy => h y (List.mem_cons_of_mem _ hy)) (fun y hy => by
        rcases List.mem_append.1 hy with hy | hy
        · exact hl y hy
        · obtain rfl : y = x := by simpa using hy
          omega)]
      have e : keep.toNat = (keep - 1).toNat + 1 := by omega
      rw [e]
      simp
theorem Link.act {n : Nat} {s : St} {r : RSt} (h : Link n s r) : (actF s).1 = (ractF r).1 ∧ Link n (actF s).2 (ractF r).2 := by
  obtain ⟨h1, h2, h3, h4, h5, h6⟩ := h
  unfold actF ractF
  rw [h5, h6]
  split
  · exact ⟨rfl, ⟨h1, h2, h3, h4, h5, h6⟩⟩
  · split
    · exact ⟨rfl, ⟨h1, h2, h3, h4, rfl, rfl⟩⟩
    · split
      · exact ⟨rfl, ⟨h1, h2, h3, h4, rfl, rfl⟩⟩
      · exact ⟨rfl, ⟨h1, h2, h3, h4, h5, h6⟩⟩
theorem Link.flush {n : Nat} {s : St} {r : RSt} (h : Link n s r) : (flushF s).1 = (rflushF r).1 ∧ Link n (flushF s).2 (rflushF r).2 := by
  obtain ⟨ha, hl⟩ := h.act
  obtain ⟨h1, h2, h3, h4, h5, h6⟩ := hl
  unfold flushF rflushF
  rw [ha]
  split
  · refine ⟨rfl, ⟨h.now, ?_, rfl, h4, h5, h6⟩⟩
    obtain ⟨e1, e2, e3, e4⟩ := act_same s
    show (actF s).2.now = blocksF n (r.sure ++ r.wait ++ [])
    rw [List.append_nil, ← h.now]
    assumption
  · exact ⟨rfl, ⟨h1, h2, h3, h4, h5, h6⟩⟩
theorem Link.crash {n : Nat} {s : St} {r : RSt} (h : Link n s r) (hw : ∀ x ∈ r.wait, x.pos < n ∧ x.b.length = 64) (hl : ∀ x ∈ r.sure, x.b.length ≤ 64) (keep cut : Int) : Link n (crashF s keep cut) (rcrashF r keep cut) := by
  have e : crashL (cutN cut) s.wait keep s.sure = blocksF n (rcrashF r keep cut).sure := by
    rw [h.wait, h.sure, crash_link n (cutN cut) (cutN_le cut) r.wait keep r.sure hw hl]
    rfl
  refine ⟨e, ?_, rfl, h.limit, rfl, rfl⟩
  show crashL (cutN cut) s.wait keep s.sure = blocksF n ((rcrashF r keep cut).sure ++ [])
  rw [List.append_nil]
  exact e
theorem Link.limits {n : Nat} {s : St} {r : RSt} (h : Link n s r) (k : Int) : Link n (limitF s n k) (rlimitF r n k) :=
  ⟨h.sure, h.now, h.wait, rfl, h.left, h.dark⟩
theorem Link.darks {n : Nat} {s : St} {r : RSt} (h : Link n s r) (k : Int) : Link n (darkF s k) (rdarkF r k) :=
  ⟨h.sure, h.now, h.wait, h.limit, rfl, h.dark⟩
/-- What a write on the document's disk answers, and leaves. -/
def WriteR (r : RSt) (n : Nat) (k : Int) (x : List Int) (e : Int) (r' : RSt) : Prop :=
  if r.dim = true then e = 6 ∧ r' = r else if k < 0 ∨ (n : Int) ≤ k ∨ x.length ≠ 64 then e = 150 ∧ r' = r else if r.limit ≤ k then e = 5 ∧ r' = r
  else if (ractF r).1 = false then e = 6 ∧ r' = (ractF r).2 else e = 0 ∧ ∃ q cap, r' = { (ractF r).2 with wait := r.wait ++ [⟨k.toNat, q, cap, x⟩] }
theorem Link.write {n : Nat} {s : St} {r r' : RSt} {k e : Int} {x : List Int} (h : Link n s r) (hl : ∀ y ∈ r.sure ++ r.wait, y.b.length ≤ 64) (hr : WriteR r n k x e r') : (writeF s n k x).1 = e ∧ Link n (writeF s n k x).2 r' := by
  obtain ⟨ha, hA⟩ := h.act
  unfold WriteR at hr
  unfold writeF
  rw [h.dark, h.limit, ha]
  split at hr
  · rename_i c1
    rw [if_pos c1]
    exact ⟨hr.1.symm, hr.2 ▸ h⟩
  · rename_i c1
    rw [if_neg c1]
    split at hr
    · rename_i c2
      rw [if_pos c2]
      exact ⟨hr.1.symm, hr.2 ▸ h⟩
    · rename_i c2
      rw [if_neg c2]
      split at hr
      · rename_i c3
        rw [if_pos c3]
        exact ⟨hr.1.symm, hr.2 ▸ h⟩
      · rename_i c3
        rw [if_neg c3]
        split at hr
        · rename_i c4
          rw [if_pos c4]
          exact ⟨hr.1.symm, hr.2 ▸ hA⟩
        · rename_i c4
          obtain ⟨rfl, q, cap, rfl⟩ := hr
          rw [if_neg c4]
          obtain ⟨h1, h2, h3, h4, h5, h6⟩ := hA
          refine ⟨rfl, ⟨h1, ?_, ?_, h4, h5, h6⟩⟩
          · show s.now.set k.toNat x = blocksF n ((ractF r).2.sure ++ (r.wait ++ [⟨k.toNat, q, cap, x⟩]))
            rw [(ract_same r).1, ← List.append_assoc, ← blocksF_set n (r.sure ++ r.wait) ⟨k.toNat, q, cap, x⟩ (show k.toNat < n by omega), h.now]
            show (blocksF n _).set k.toNat x = (blocksF n _).set k.toNat (over (rvalF _ k.toNat zero64) x)
            rw [over_full _ _ (by rw [rvalF_len _ _ _ hl zero64_len]; omega)]
          · show s.wait ++ [_] = (r.wait ++ [_]).map _
            rw [List.map_append, h.wait]
            rfl
theorem link_new (n : Nat) : Link n (newS n) (rnew n) := by
  refine ⟨?_, ?_, rfl, rfl, rfl, rfl⟩
  all_goals
    show List.replicate n zero64 = (List.range n).map (fun k => zero64)
    rw [List.map_const', List.length_range]
section
variable {W : World} {own : Nat → Prop} {b n : Nat} {r : RSt}
theorem rwrite_a {base : Nat} {v : Value} {m : Nat} {x : List Int} (h : RDisk W own b n r) (k : Int) (hx : W.ownsRow base 5 1 v m (bv x)) (hxo : ByteOk x) (hw : r.wait.length < 1000000) :
    Calls Try.prog 30 #[.pointer (some ⟨b, 0, none⟩), .int .i64 k, v] W fun e W' => ∃ q r', e = .returned (.int .i64 q) ∧ WriteR r n k x q r' ∧ RDisk W' (And' own W) b n r' ∧ Frame own W W' := by
  have hm : x.length = m := by have := hx.1; rw [bv_len] at this; omega
  have hv : ∃ A c, v = .slice A m c := by
    rcases hx.2 with ⟨hv, h0⟩ | ⟨g, cap, _, hv, _⟩
    · rw [hv, h0]; exact ⟨_, _, rfl⟩
    · exact ⟨_, _, hv⟩
  obtain ⟨A, c, rfl⟩ := hv
  have mono : ∀ {W' : World} {r' : RSt}, RDisk W' own b n r' → RDisk W' (And' own W) b n r' := fun h => h.mono (fun _ h _ => .inl h)
  cases hd : r.dim with
  | true =>
    refine (rwrite_dark h k _ hd).mono ?_
    rintro e W' ⟨rfl, rfl⟩
    exact ⟨6, r, rfl, by unfold WriteR; rw [if_pos hd]; exact ⟨rfl, rfl⟩, mono h, Frame.refl _ _⟩
  | false =>
    have hd' : ¬ r.dim = true := by rw [hd]; decide
    by_cases h1 : k < 0 ∨ (n : Int) ≤ k ∨ x.length ≠ 64
    · refine (rwrite_block h k c m hd (by rw [← hm]; exact h1)).mono ?_
      rintro e W' ⟨rfl, rfl⟩
      exact ⟨150, r, rfl, by unfold WriteR; rw [if_neg hd', if_pos h1]; exact ⟨rfl, rfl⟩, mono h, Frame.refl _ _⟩
    · obtain rfl : m = 64 := by omega
      by_cases h2 : r.limit ≤ k
      · refine (rwrite_full h k c hd (by omega) (by omega) h2).mono ?_
        rintro e W' ⟨rfl, rfl⟩
        exact ⟨5, r, rfl, by unfold WriteR; rw [if_neg hd', if_neg h1, if_pos h2]; exact ⟨rfl, rfl⟩, mono h, Frame.refl _ _⟩
      · cases ha : (ractF r).1 with
        | false =>
          refine (rwrite_gone h k c hd (by omega) (by omega) h2 ha).mono ?_
          rintro e W' ⟨rfl, q1, q2⟩
          exact ⟨6, _, rfl, by unfold WriteR; rw [if_neg hd', if_neg h1, if_neg h2, if_pos ha]; exact ⟨rfl, rfl⟩, mono q1, q2⟩
        | true =>
          obtain ⟨kn, rfl⟩ : ∃ kn : Nat, k = kn := ⟨k.toNat, by omega⟩
          refine (rwrite_good h kn c hx hxo hd (by omega) h2 ha hw).mono ?_
          rintro e W' ⟨q, cap, rfl, q1, q2⟩
          exact ⟨0, _, rfl, by unfold WriteR; rw [if_neg hd', if_neg h1, if_neg h2, if_neg (by rw [ha]; decide)]; exact ⟨rfl, q, cap, rfl⟩, q1, q2⟩
end
end Go.Proofs.Ytfhnhkjbfaieiaa.Bl
