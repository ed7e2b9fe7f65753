/- The two disks in one memory (Pair); what is read, and spoilt. Condition: the receivers are such disks. -/
import Derived.Test.YtfhnhkjbfaieiaaR6
namespace Go.Proofs.Ytfhnhkjbfaieiaa.Bl
open Go.RowKit
set_option linter.unusedVariables false
set_option linter.unusedSimpArgs false
/-- Both disks, in blocks of their own, at or behind B, none of which is one of av. -/
structure Pair (W : World) (B : Nat) (av : Nat → Prop) (b1 b2 n : Nat) (s : St) (r : RSt) : Prop where
  ex : ∃ o1 o2, Disk W o1 b1 n s ∧ RDisk W o2 b2 n r ∧ (∀ k, o1 k → ¬ o2 k) ∧ (∀ k, o1 k → B ≤ k ∧ ¬ av k) ∧ (∀ k, o2 k → B ≤ k ∧ ¬ av k)
  low : B ≤ W.heap.size
  avl : ∀ k, av k → k < W.heap.size
section
variable {W W' : World} {B : Nat} {av : Nat → Prop} {b1 b2 n : Nat} {s s' : St} {r : RSt}
theorem Pair.lower (h : Pair W B av b1 b2 n s r) (hb : Below W.heap.size W W') : Pair W' B (fun k => av k ∨ W.heap.size ≤ k ∧ k < W'.heap.size) b1 b2 n s r := by
  obtain ⟨⟨o1, o2, d1, d2, hd, h1, h2⟩, low, avl⟩ := h
  refine ⟨⟨fun k => o1 k ∧ k < W.heap.size, fun k => o2 k ∧ k < W.heap.size, (d1.mono (fun k h hl => ⟨h, hl⟩)).below hb (Nat.le_refl _), (d2.mono (fun k h hl => ⟨h, hl⟩)).below hb (Nat.le_refl _), fun k a b => hd k a.1 b.1, fun k a => ⟨(h1 k a.1).1, ?_⟩, fun k a => ⟨(h2 k a.1).1, ?_⟩⟩, Nat.le_trans low hb.size, ?_⟩
  · rintro (h | h)
    · exact (h1 k a.1).2 h
    · have := a.2; omega
  · rintro (h | h)
    · exact (h2 k a.1).2 h
    · have := a.2; omega
  · rintro k (h | h)
    · exact Nat.lt_of_lt_of_le (avl k h) hb.size
    · exact h.2
theorem Pair.forget (h : Pair W B av b1 b2 n s r) : Pair W B (fun _ => False) b1 b2 n s r := by
  obtain ⟨⟨o1, o2, d1, d2, hd, h1, h2⟩, low, avl⟩ := h
  exact ⟨⟨o1, o2, d1, d2, hd, fun k a => ⟨(h1 k a).1, id⟩, fun k a => ⟨(h2 k a).1, id⟩⟩, low, fun k h => h.elim⟩
theorem Pair.free {g : Nat} (h : Pair W B av b1 b2 n s r) (hf : Frame (fun k => k = g) W W') (hg : av g) : Pair W' B av b1 b2 n s r := by
  obtain ⟨⟨o1, o2, d1, d2, hd, h1, h2⟩, low, avl⟩ := h
  exact ⟨⟨o1, o2, d1.frame hf (fun k a e => (h1 k a).2 (e ▸ hg)), d2.frame hf (fun k a e => (h2 k a).2 (e ▸ hg)), hd, h1, h2⟩, Nat.le_trans low hf.low.size, fun k a => Nat.lt_of_lt_of_le (avl k a) hf.low.size⟩
theorem Pair.left {f : Nat} {args : Array Value} {P : Ending → Prop} (h : Pair W B av b1 b2 n s r)
    (hc : ∀ own, Disk W own b1 n s → Calls Try.prog f args W fun e W' => P e ∧ Disk W' (And' own W) b1 n s' ∧ Frame own W W') :
    Calls Try.prog f args W fun e W' => P e ∧ Pair W' B av b1 b2 n s' r ∧ Below B W W' ∧ ∀ k, av k → W'.heap[k]? = W.heap[k]? := by
  obtain ⟨⟨o1, o2, d1, d2, hd, h1, h2⟩, low, avl⟩ := h
  refine (hc o1 d1).mono ?_
  rintro e W' ⟨p, q1, q2⟩
  refine ⟨p, ⟨⟨And' o1 W, fun k => o2 k ∧ k < W.heap.size, q1, (d2.mono (fun k h hl => ⟨h, hl⟩)).frame q2 (fun k a b => hd k b a.1), ?_, ?_, fun k a => h2 k a.1⟩, Nat.le_trans low q2.low.size, fun k a => Nat.lt_of_lt_of_le (avl k a) q2.low.size⟩, q2.below low (fun k a => (h1 k a).1), fun k a => q2.block k (avl k a) (fun b => (h1 k b).2 a)⟩
  · rintro k (a | a) b
    · exact hd k a b.1
    · have := b.2; omega
  · rintro k (a | a)
    · exact h1 k a
    · exact ⟨by omega, fun c => by have := avl k c; omega⟩
theorem Pair.right {f : Nat} {args : Array Value} {P : Ending → RSt → Prop} (h : Pair W B av b1 b2 n s r)
    (hc : ∀ own, RDisk W own b2 n r → Calls Try.prog f args W fun e W' => ∃ r', P e r' ∧ RDisk W' (And' own W) b2 n r' ∧ Frame own W W') :
    Calls Try.prog f args W fun e W' => ∃ r', P e r' ∧ Pair W' B av b1 b2 n s r' ∧ Below B W W' ∧ ∀ k, av k → W'.heap[k]? = W.heap[k]? := by
  obtain ⟨⟨o1, o2, d1, d2, hd, h1, h2⟩, low, avl⟩ := h
  refine (hc o2 d2).mono ?_
  rintro e W' ⟨r', p, q1, q2⟩
  refine ⟨r', p, ⟨⟨fun k => o1 k ∧ k < W.heap.size, And' o2 W, (d1.mono (fun k h hl => ⟨h, hl⟩)).frame q2 (fun k a b => hd k a.1 b), q1, ?_, fun k a => h1 k a.1, ?_⟩, Nat.le_trans low q2.low.size, fun k a => Nat.lt_of_lt_of_le (avl k a) q2.low.size⟩, q2.below low (fun k a => (h2 k a).1), fun k a => q2.block k (avl k a) (fun b => (h2 k b).2 a)⟩
  · rintro k a (b | b)
    · exact hd k a.1 b
    · have := a.2; omega
  · rintro k (a | a)
    · exact h2 k a
    · exact ⟨by omega, fun c => by have := avl k c; omega⟩
theorem Pair.ok1 (h : Pair W B av b1 b2 n s r) : s.Ok n := by
  obtain ⟨⟨o1, o2, d1, d2, hd, h1, h2⟩, low, avl⟩ := h
  exact d1.ok
theorem Pair.rows (h : Pair W B av b1 b2 n s r) : r.Ok n ∧ (∀ y ∈ r.sure ++ r.wait, y.b.length ≤ 64 ∧ y.pos < n ∧ ByteOk y.b) := by
  obtain ⟨⟨o1, o2, d1, ⟨hok, vs, vw, d2⟩, hd, h1, h2⟩, low, avl⟩ := h
  refine ⟨hok, fun y hy => ?_⟩
  rcases List.mem_append.1 hy with hy | hy
  · exact ⟨(d2.d1 y hy).len, (d2.d1 y hy).pos, (d2.d1 y hy).ok⟩
  · exact ⟨(d2.d2 y hy).len, (d2.d2 y hy).pos, (d2.d2 y hy).ok⟩
end
/-- What a read answers. -/
def readV (s : St) (n : Nat) (k : Int) : List Int × Int := if s.dark = true then ([], 6) else if k < 0 ∨ (n : Int) ≤ k then ([], 150) else (s.now.getD k.toNat [], 0)
def rreadV (r : RSt) (n : Nat) (k : Int) : List Int × Int := if r.dim = true then ([], 6) else if k < 0 ∨ (n : Int) ≤ k then ([], 150) else (rvalF (r.sure ++ r.wait) k.toNat zero64, 0)
theorem Link.read {n : Nat} {s : St} {r : RSt} (h : Link n s r) (k : Int) : readV s n k = rreadV r n k := by
  unfold readV rreadV
  rw [h.dark]
  split
  · rfl
  · split
    · rfl
    · rename_i hk
      rw [h.now, List.getD, blocksF_get _ _ _ (by omega)]
      rfl
/-- Bytes that came out: none, or a row laid from W on. -/
def Out (W W' : World) (A : Option Addr) (x : List Int) : Prop := Bytes W' A x ∧ (x = [] ∨ ∃ g, A = some ⟨g, 0, none⟩ ∧ W.heap.size ≤ g ∧ Wide W' g 0 x.length ∧ x.length ≤ 64)
theorem out_nil (W W' : World) : Out W W' none [] := ⟨⟨(fun y hy => by cases hy), fun h => absurd rfl h⟩, .inl rfl⟩
theorem wide_keep {w w' : World} {g o n : Nat} (h : Wide w g o n) (hs : w.heap.size ≤ w'.heap.size) (hk : w'.heap[g]? = w.heap[g]?) : Wide w' g o n := by
  refine ⟨by have := h.1; omega, fun j hj => ?_⟩
  obtain ⟨h1, h2⟩ := h.2 j hj
  rw [World.cell?_of_block (w := w) (a := ⟨g, o + j, none⟩) hk]
  refine ⟨h1, ?_⟩
  rw [← h2]
  unfold World.frozen?
  rw [hk]
theorem bytes_keep {w w' : World} {A : Option Addr} {x : List Int} (h : Bytes w A x) (hs : w.heap.size ≤ w'.heap.size) (hk : ∀ g, (A.map (·.block)) = some g → w'.heap[g]? = w.heap[g]?) : Bytes w' A x := by
  refine ⟨h.1, fun hx => ?_⟩
  obtain ⟨q, o, rfl, hq, hr⟩ := h.2 hx
  exact ⟨q, o, rfl, by omega, range_heap hr (hk q rfl)⟩
section
variable {W : World} {own : Nat → Prop} {b n : Nat} {s : St} {r : RSt}
theorem read_u (h : Disk W own b n s) (k : Int) :
    Calls Try.prog 13 #[.pointer (some ⟨b, 0, none⟩), .int .i64 k] W fun e W' => ∃ A c, e = .returned (.tuple #[.slice A (readV s n k).1.length c, .int .i64 (readV s n k).2]) ∧ Out W W' A (readV s n k).1 ∧ Below W.heap.size W W' := by
  unfold readV
  by_cases hd : s.dark = true
  · rw [if_pos hd]
    refine (read_dark h k hd).mono ?_
    rintro e W' ⟨rfl, rfl⟩
    exact ⟨none, 0, rfl, out_nil _ _, Below.refl _ _⟩
  · rw [if_neg hd]
    have hd' : s.dark = false := by simpa using hd
    by_cases hk : k < 0 ∨ (n : Int) ≤ k
    · rw [if_pos hk]
      refine (read_out h k hd' hk).mono ?_
      rintro e W' ⟨rfl, rfl⟩
      exact ⟨none, 0, rfl, out_nil _ _, Below.refl _ _⟩
    · rw [if_neg hk]
      obtain ⟨kn, rfl⟩ : ∃ kn : Nat, k = kn := ⟨k.toNat, by omega⟩
      have hn := h.ok.now
      have hkn : kn < s.now.length := by omega
      have hb := h.ok.b1
      have e : s.now.getD (kn : Int).toNat [] = s.now[kn] := by
        show s.now.getD kn [] = _
        rw [List.getD, List.getElem?_eq_getElem hkn]
        rfl
      have hl := hb.1 _ (List.getElem_mem hkn)
      refine (read_at h kn hd' hkn).mono ?_
      rintro e' W' ⟨g, rfl, q1, q2, q3⟩
      simp only [e]
      exact ⟨_, 64, by rw [hl], ⟨bytes_of_block q1 (hb.2 _ (List.getElem_mem hkn)), .inr ⟨g, rfl, q2, wide_block q1, by omega⟩⟩, q3⟩
theorem rread_u (h : RDisk W own b n r) (k : Int) (hw : r.sure.length + r.wait.length < 1000000) :
    Calls Try.prog 24 #[.pointer (some ⟨b, 0, none⟩), .int .i64 k] W fun e W' => ∃ A c, e = .returned (.tuple #[.slice A (rreadV r n k).1.length c, .int .i64 (rreadV r n k).2]) ∧ Out W W' A (rreadV r n k).1 ∧ Below W.heap.size W W' := by
  unfold rreadV
  by_cases hd : r.dim = true
  · rw [if_pos hd]
    refine (rread_dark h k hd).mono ?_
    rintro e W' ⟨rfl, rfl⟩
    exact ⟨none, 0, rfl, out_nil _ _, Below.refl _ _⟩
  · rw [if_neg hd]
    have hd' : r.dim = false := by simpa using hd
    by_cases hk : k < 0 ∨ (n : Int) ≤ k
    · rw [if_pos hk]
      refine (rread_out h k hd' hk).mono ?_
      rintro e W' ⟨rfl, rfl⟩
      exact ⟨none, 0, rfl, out_nil _ _, Below.refl _ _⟩
    · rw [if_neg hk]
      obtain ⟨kn, rfl⟩ : ∃ kn : Nat, k = kn := ⟨k.toNat, by omega⟩
      have hrows : ∀ y ∈ r.sure ++ r.wait, y.b.length ≤ 64 ∧ ByteOk y.b := by
        obtain ⟨hok, vs, vw, d2⟩ := h
        intro y hy
        rcases List.mem_append.1 hy with hy | hy
        · exact ⟨(d2.d1 y hy).len, (d2.d1 y hy).ok⟩
        · exact ⟨(d2.d2 y hy).len, (d2.d2 y hy).ok⟩
      have hl := rvalF_len kn (r.sure ++ r.wait) zero64 (fun y hy => (hrows y hy).1) zero64_len
      have hok := rvalF_ok kn (r.sure ++ r.wait) zero64 (fun y hy => (hrows y hy).2) zero_ok
      refine (rread_at h kn hd' (by omega) hw).mono ?_
      rintro e' W' ⟨g, rfl, q1, q2, q3⟩
      show ∃ A c, Ending.returned (.tuple #[.slice (some ⟨g, 0, none⟩) 64 64, .int .i64 0]) = .returned (.tuple #[.slice A (rvalF (r.sure ++ r.wait) kn zero64).length c, .int .i64 0]) ∧ Out W W' A (rvalF (r.sure ++ r.wait) kn zero64) ∧ Below W.heap.size W W'
      exact ⟨_, 64, by rw [hl], ⟨bytes_of_five q1 hok, .inr ⟨g, rfl, q2, wide_block q1, by omega⟩⟩, q3⟩
end
end Go.Proofs.Ytfhnhkjbfaieiaa.Bl
