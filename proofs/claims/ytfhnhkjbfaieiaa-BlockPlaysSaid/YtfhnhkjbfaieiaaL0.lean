/- The acts, as the argument reads; plain lemmas on a disk that is lit and counts no acts. No condition. -/
import Derived.Test.YtfhnhkjbfaieiaaB8
namespace Go.Proofs.Ytfhnhkjbfaieiaa.Bl
open Go.RowKit
set_option linter.unusedVariables false
set_option linter.unusedSimpArgs false
/-- An act. -/
structure Ac where
  kind : Int
  pos : Int
  n : Int
  fill : Int
/-- The acts, as the argument reads. -/
def Acts (W : World) (A : Option Addr) (l : List Ac) : Prop :=
  ∀ i (h : i < l.length), ∃ b o, A = some ⟨b, o, none⟩ ∧ b < W.heap.size ∧ W.cell? ⟨b, o + i * 4, none⟩ = some (.int .i64 l[i].kind) ∧ W.cell? ⟨b, o + i * 4 + 1, none⟩ = some (.int .i64 l[i].pos) ∧
    W.cell? ⟨b, o + i * 4 + 2, none⟩ = some (.int .i64 l[i].n) ∧ W.cell? ⟨b, o + i * 4 + 3, none⟩ = some (.int .u8 l[i].fill) ∧ 0 ≤ l[i].fill ∧ l[i].fill < 256 ∧ -9223372036854775808 ≤ l[i].pos ∧ l[i].pos ≤ 9223372036854775807 ∧ -9223372036854775808 ≤ l[i].n ∧ l[i].n ≤ 9223372036854775807
theorem Acts.below {W W' : World} {A : Option Addr} {l : List Ac} {B : Nat} (h : Acts W A l) (hb : Below B W W') (hB : W.heap.size ≤ B) : Acts W' A l := fun i hi => by
  obtain ⟨b, o, e, hlt, h0, h1, h2, h3, h4⟩ := h i hi
  have hB' : ∀ j, W'.cell? ⟨b, j, none⟩ = W.cell? ⟨b, j, none⟩ := fun j => hb.cell (p := ⟨b, j, none⟩) (by show b < B; omega)
  exact ⟨b, o, e, Nat.lt_of_lt_of_le hlt hb.size, by rw [hB']; exact h0, by rw [hB']; exact h1, by rw [hB']; exact h2, by rw [hB']; exact h3, h4⟩
/-- Which of the m blocks an act means. -/
def kAt (m : Int) (a : Int) : Nat := ((IntKind.u64.wrap a).tmod m).toNat
theorem kAt_spec (m a : Int) (hm : 0 < m) : (IntKind.u64.wrap a).tmod m = (kAt m a : Int) ∧ (kAt m a : Int) < m := by
  have h : IntKind.u64.wrap a = a % 18446744073709551616 := rfl
  have h0 : 0 ≤ IntKind.u64.wrap a := by omega
  have h1 : 0 ≤ (IntKind.u64.wrap a).tmod m ∧ (IntKind.u64.wrap a).tmod m < m := by
    rw [Int.tmod_eq_emod_of_nonneg h0]
    exact ⟨Int.emod_nonneg _ (by omega), Int.emod_lt_of_pos _ hm⟩
  unfold kAt
  omega
theorem act_free {s : St} (hd : s.dark = false) (hl : s.left = -1) : actF s = (true, s) := by
  unfold actF
  rw [if_neg (by rw [hd]; decide), if_neg (by omega), if_neg (by omega)]
theorem flush_free {s : St} (hd : s.dark = false) (hl : s.left = -1) : flushF s = (0, { s with sure := s.now, wait := [] }) := by
  unfold flushF
  rw [act_free hd hl]
  rfl
theorem write_free {s : St} (hd : s.dark = false) (hl : s.left = -1) {n k : Nat} (hk : k < n) (hlim : (n : Int) ≤ s.limit) {x : List Int} (hx : x.length = 64) : writeF s n k x = (0, { s with now := s.now.set k x, wait := s.wait ++ [⟨k, x⟩] }) := by
  unfold writeF
  rw [act_free hd hl, if_neg (by rw [hd]; decide), if_neg (by omega), if_neg (by omega), if_neg (by simp)]
  rfl
theorem map_set {α β : Type} (f : α → β) (l : List α) (k : Nat) (x : α) : (l.map f).set k (f x) = (l.set k x).map f := by
  rw [List.map_set]
theorem bv_set (l : List Int) (k : Nat) (c : Int) : (bv l).toArray.setIfInBounds k (.int .u8 c) = (bv (l.set k c)).toArray := by
  apply Array.ext'
  simp [bv, List.map_set]
/-- A disk that is lit and counts no acts, whose blocks are each of one byte. -/
structure Reads (s : St) (want : List Int) (i : Nat) : Prop where
  dark : s.dark = false
  left : s.left = -1
  limit : s.limit = 8
  now : s.now = want.map full64
  len : want.length = 8
  ok : ByteOk want
  wait : s.wait.length ≤ i
theorem reads_start : Reads (newS 8) (List.replicate 8 0) 0 :=
  ⟨rfl, rfl, rfl, rfl, rfl, fun y hy => by rw [(List.mem_replicate.1 hy).2]; omega, Nat.le_refl _⟩
theorem reads_flush {s : St} {want : List Int} {i : Nat} (h : Reads s want i) : flushF s = (0, { s with sure := s.now, wait := [] }) ∧ Reads { s with sure := s.now, wait := [] } want (i + 1) :=
  ⟨flush_free h.dark h.left, h.dark, h.left, h.limit, h.now, h.len, h.ok, Nat.zero_le _⟩
theorem reads_write {s : St} {want : List Int} {i : Nat} (h : Reads s want i) (k : Nat) (hk : k < 8) (c : Int) (hc : 0 ≤ c ∧ c < 256) :
    writeF s 8 k (full64 c) = (0, { s with now := s.now.set k (full64 c), wait := s.wait ++ [⟨k, full64 c⟩] }) ∧ Reads { s with now := s.now.set k (full64 c), wait := s.wait ++ [⟨k, full64 c⟩] } (want.set k c) (i + 1) := by
  refine ⟨write_free (n := 8) h.dark h.left hk (by rw [h.limit]; exact Int.le_refl _) (full_len c), h.dark, h.left, h.limit, ?_, by rw [List.length_set]; exact h.len, fun y hy => ?_, ?_⟩
  · show s.now.set k (full64 c) = _
    rw [h.now, map_set]
  · rcases List.mem_or_eq_of_mem_set hy with hy | rfl
    · exact h.ok y hy
    · exact hc
  · show (s.wait ++ [_]).length ≤ _
    rw [List.length_append]
    have := h.wait
    simp
    omega
theorem reads_at {s : St} {want : List Int} {i : Nat} (h : Reads s want i) (j : Nat) (hj : j < want.length) : s.now[j]? = some (full64 want[j]) := by
  rw [h.now, List.getElem?_map, List.getElem?_eq_getElem hj]; rfl
end Go.Proofs.Ytfhnhkjbfaieiaa.Bl
