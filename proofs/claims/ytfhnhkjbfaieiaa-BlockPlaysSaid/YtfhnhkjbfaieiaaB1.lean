/- The methods of a disk that move no blocks: act, Waiting, Lit, Dark, Limit, Blocks. Condition: the receiver is a disk in memory, or nil. -/
import Derived.Test.YtfhnhkjbfaieiaaB0
namespace Go.Proofs.Ytfhnhkjbfaieiaa.Bl
open Go.RowKit
set_option linter.unusedVariables false
set_option linter.unusedSimpArgs false
def actF (s : St) : Bool × St :=
  if s.dark = true then (false, s) else if s.left = 0 then (false, { s with dark := true }) else if s.left > 0 then (true, { s with left := s.left - 1 }) else (true, s)
theorem act_ok {s : St} {n : Nat} (h : s.Ok n) : (actF s).2.Ok n := by
  obtain ⟨h1, h2, h3, h4, h5, h6, h7, h8, h9⟩ := h
  unfold actF
  split
  · exact ⟨h1, h2, h3, h4, h5, h6, h7, h8, h9⟩
  · split
    · exact ⟨h1, h2, h3, h4, h5, h6, h7, h8, h9⟩
    · split
      · refine ⟨h1, h2, h3, h4, h5, h6, h7, ?_, ?_⟩ <;> show _ ≤ _ <;> simp only <;> omega
      · exact ⟨h1, h2, h3, h4, h5, h6, h7, h8, h9⟩
theorem act_same (s : St) : (actF s).2.now = s.now ∧ (actF s).2.sure = s.sure ∧ (actF s).2.wait = s.wait ∧ (actF s).2.limit = s.limit := by
  unfold actF
  split
  · exact ⟨rfl, rfl, rfl, rfl⟩
  · split
    · exact ⟨rfl, rfl, rfl, rfl⟩
    · split <;> exact ⟨rfl, rfl, rfl, rfl⟩
/-- The same slices, another count or light. -/
theorem act_at {W : World} {own : Nat → Prop} {b n g1 c1 g2 c2 : Nat} {s : St} {v : Value} (h : DiskAt W own b n s g1 c1 g2 c2 v) (hok : s.Ok n) :
    Calls Try.prog 26 #[.pointer (some ⟨b, 0, none⟩)] W fun e W' => e = .returned (.bool (actF s).1) ∧ DiskAt W' own b n (actF s).2 g1 c1 g2 c2 v ∧ Frame own W W' ∧ (∀ k, k ≠ b → W'.heap[k]? = W.heap[k]?) ∧ W'.heap.size = W.heap.size := by
  obtain ⟨c0, c1', c2', c3, c4, c5⟩ := h.cells
  have l1 := hok.l1
  have l2 := hok.l2
  have f4 := blk_frozen h.blk 4
  have f5 := blk_frozen h.blk 5
  have H := As.mk h
  have hF := As.mk (Frame.refl own W)
  have hs : W.heap.size = W.heap.size := rfl
  clear h hok c0 c1' c2' c3 hs
  cases hd : s.dark with
  | true =>
    have e1 : As (actF s = (false, s)) := ⟨by unfold actF; rw [if_pos hd]⟩
    rw [hd] at c5
    clear hd
    go_enter Try.func26, Try.ntmps26
    go_wp2_with fail
    go_ret
    rw [e1.out]
    exact ⟨rfl, H.out, hF.out, fun _ _ => rfl, rfl⟩
  | false =>
    rw [hd] at c5
    have hd' := As.mk hd
    clear hd
    by_cases h0 : s.left = 0
    · have e1 : As (actF s = (false, { s with dark := true })) := ⟨by unfold actF; rw [if_neg (by rw [hd'.out]; decide), if_pos h0]⟩
      rw [h0] at c4
      clear h0 l1 l2
      go_enter Try.func26, Try.ntmps26
      go_wp2_with fail
      go_ret
      rw [e1.out]
      refine ⟨rfl, H.out.field 5 (.bool true) (by simp) rfl rfl rfl, hF.out.setCell (.inl H.out.o0) _, fun k hk => Below.heap_setCell _ _ _ _ hk, by simp [World.setCell]⟩
    · by_cases h1 : s.left > 0
      · have e1 : As (actF s = (true, { s with left := s.left - 1 })) := ⟨by unfold actF; rw [if_neg (by rw [hd'.out]; decide), if_neg h0, if_pos h1]⟩
        generalize hl : s.left = l at *
        have HL := As.mk hl
        clear hl
        go_enter Try.func26, Try.ntmps26
        go_wp2_with fail
        go_ret
        rw [e1.out]
        refine ⟨rfl, H.out.field 4 (.int .i64 (l - 1)) (by simp [HL.out]) rfl rfl rfl, hF.out.setCell (.inl H.out.o0) _, fun k hk => Below.heap_setCell _ _ _ _ hk, by simp [World.setCell]⟩
      · have e1 : As (actF s = (true, s)) := ⟨by unfold actF; rw [if_neg (by rw [hd'.out]; decide), if_neg h0, if_neg h1]⟩
        generalize hl : s.left = l at *
        clear hl
        go_enter Try.func26, Try.ntmps26
        go_wp2_with fail
        go_ret
        rw [e1.out]
        exact ⟨rfl, H.out, hF.out, fun _ _ => rfl, rfl⟩
theorem waiting_a {W : World} {own : Nat → Prop} {b n : Nat} {s : St} (h : Disk W own b n s) :
    Calls Try.prog 16 #[.pointer (some ⟨b, 0, none⟩)] W fun e W' => e = .returned (.int .i64 s.wait.length) ∧ W = W' := by
  obtain ⟨hok, g1, c1, g2, c2, v, h⟩ := h
  obtain ⟨_, _, c, _⟩ := h.cells
  have hv : ∃ A k, v = .slice A s.wait.length k := by
    rcases h.wait.2 with ⟨hv, h0⟩ | ⟨g, cap, _, hv, _⟩
    · rw [hv, h0]; exact ⟨_, _, rfl⟩
    · exact ⟨_, _, hv⟩
  obtain ⟨A, k, rfl⟩ := hv
  clear h
  go_enter Try.func16, Try.ntmps16
  go_wp2_with fail
  go_ret
  exact ⟨rfl, rfl⟩
theorem waiting_nil (W : World) : Calls Try.prog 16 #[.pointer none] W fun e W' => e = .returned (.int .i64 0) ∧ W = W' := by
  go_enter Try.func16, Try.ntmps16
  go_wp2_with fail
  go_ret
  exact ⟨rfl, rfl⟩
theorem blocks_a {W : World} {own : Nat → Prop} {b n : Nat} {s : St} (h : Disk W own b n s) :
    Calls Try.prog 22 #[.pointer (some ⟨b, 0, none⟩)] W fun e W' => e = .returned (.int .i64 n) ∧ W = W' := by
  obtain ⟨hok, g1, c1, g2, c2, v, h⟩ := h
  obtain ⟨c, _⟩ := h.cells
  clear h
  go_enter Try.func22, Try.ntmps22
  go_wp2_with fail
  go_ret
  exact ⟨rfl, rfl⟩
theorem blocks_nil (W : World) : Calls Try.prog 22 #[.pointer none] W fun e W' => e = .returned (.int .i64 0) ∧ W = W' := by
  go_enter Try.func22, Try.ntmps22
  go_wp2_with fail
  go_ret
  exact ⟨rfl, rfl⟩
theorem lit_a {W : World} {own : Nat → Prop} {b n : Nat} {s : St} (h : Disk W own b n s) :
    Calls Try.prog 19 #[.pointer (some ⟨b, 0, none⟩)] W fun e W' => e = .returned (.bool (!s.dark)) ∧ W = W' := by
  obtain ⟨hok, g1, c1, g2, c2, v, h⟩ := h
  obtain ⟨_, _, _, _, _, c⟩ := h.cells
  clear h
  go_enter Try.func19, Try.ntmps19
  go_wp2_with fail
  go_ret
  exact ⟨rfl, rfl⟩
theorem lit_nil (W : World) : Calls Try.prog 19 #[.pointer none] W fun e W' => e = .returned (.bool false) ∧ W = W' := by
  go_enter Try.func19, Try.ntmps19
  go_wp2_with fail
  go_ret
  exact ⟨rfl, rfl⟩
def darkF (s : St) (k : Int) : St := { s with left := if k < -1 then -1 else k }
theorem dark_a {W : World} {own : Nat → Prop} {b n : Nat} {s : St} (h : Disk W own b n s) (k : Int) (hk : k ≤ 9223372036854775807) :
    Calls Try.prog 18 #[.pointer (some ⟨b, 0, none⟩), .int .i64 k] W fun e W' => e = .returned (.tuple #[]) ∧ Disk W' own b n (darkF s k) ∧ Frame own W W' := by
  obtain ⟨hok, g1, c1, g2, c2, v, h⟩ := h
  obtain ⟨_, _, _, _, c, _⟩ := h.cells
  have f4 := blk_frozen h.blk 4
  have H := As.mk h
  have hF := As.mk (Frame.refl own W)
  have OK := As.mk hok
  have HK := As.mk hk
  clear h hok hk
  have hok' : (darkF s k).Ok n := by
    obtain ⟨h1, h2, h3, h4, h5, h6, h7, h8, h9⟩ := OK.out
    have := HK.out
    refine ⟨h1, h2, h3, h4, h5, h6, h7, ?_, ?_⟩ <;> unfold darkF <;> simp only <;> split <;> omega
  have OK' := As.mk hok'
  clear hok'
  by_cases hl : k < -1
  · go_enter Try.func18, Try.ntmps18
    go_wp2_with fail
    go_end0
    refine ⟨rfl, ⟨OK'.out, g1, c1, g2, c2, v, H.out.field 4 (.int .i64 (-1)) (by simp [darkF, hl]) rfl rfl rfl⟩, hF.out.setCell (.inl H.out.o0) _⟩
  · go_enter Try.func18, Try.ntmps18
    go_wp2_with fail
    go_end0
    refine ⟨rfl, ⟨OK'.out, g1, c1, g2, c2, v, H.out.field 4 (.int .i64 k) (by simp [darkF]; omega) rfl rfl rfl⟩, hF.out.setCell (.inl H.out.o0) _⟩
theorem dark_nil (W : World) (k : Int) : Calls Try.prog 18 #[.pointer none, .int .i64 k] W fun e W' => e = .returned (.tuple #[]) ∧ W = W' := by
  go_enter Try.func18, Try.ntmps18
  go_wp2_with fail
  go_end0
  exact ⟨rfl, rfl⟩
def limitF (s : St) (n : Nat) (k : Int) : St := { s with limit := if k < 0 then n else k }
theorem limit_a {W : World} {own : Nat → Prop} {b n : Nat} {s : St} (h : Disk W own b n s) (k : Int) :
    Calls Try.prog 20 #[.pointer (some ⟨b, 0, none⟩), .int .i64 k] W fun e W' => e = .returned (.tuple #[]) ∧ Disk W' own b n (limitF s n k) ∧ Frame own W W' := by
  obtain ⟨hok, g1, c1, g2, c2, v, h⟩ := h
  obtain ⟨c0, _, _, c, _, _⟩ := h.cells
  have f3 := blk_frozen h.blk 3
  have H := As.mk h
  have hF := As.mk (Frame.refl own W)
  have OK : As ((limitF s n k).Ok n) := ⟨by
    obtain ⟨h1, h2, h3, h4, h5, h6, h7, h8, h9⟩ := hok
    exact ⟨h1, h2, h3, h4, h5, h6, h7, h8, h9⟩⟩
  clear h hok
  by_cases hl : k < 0
  · go_enter Try.func20, Try.ntmps20
    go_wp2_with fail
    go_end0
    refine ⟨rfl, ⟨OK.out, g1, c1, g2, c2, v, ?_⟩, (hF.out.setCell (.inl H.out.o0) _).setCell (.inl H.out.o0) _⟩
    exact (H.out.field (s' := { s with limit := k }) 3 (.int .i64 k) (by simp) rfl rfl rfl).field 3 (.int .i64 n) (by simp [limitF, hl]) rfl rfl rfl
  · go_enter Try.func20, Try.ntmps20
    go_wp2_with fail
    go_end0
    exact ⟨rfl, ⟨OK.out, g1, c1, g2, c2, v, H.out.field 3 (.int .i64 k) (by simp [limitF]; omega) rfl rfl rfl⟩, hF.out.setCell (.inl H.out.o0) _⟩
theorem limit_nil (W : World) (k : Int) : Calls Try.prog 20 #[.pointer none, .int .i64 k] W fun e W' => e = .returned (.tuple #[]) ∧ W = W' := by
  go_enter Try.func20, Try.ntmps20
  go_wp2_with fail
  refine bodyPost_ret (v := .tuple #[]) (results_none rfl _ _ _) rfl ?_
  exact ⟨rfl, rfl⟩
end Go.Proofs.Ytfhnhkjbfaieiaa.Bl
