/- slices.Clone at blocks; nothing waits any more (Flush). Condition: the receiver is a disk in memory, or nil. -/
import Derived.Test.YtfhnhkjbfaieiaaB4
namespace Go.Proofs.Ytfhnhkjbfaieiaa.Bl
open Go.RowKit
set_option linter.unusedVariables false
set_option linter.unusedSimpArgs false
theorem add0 (g j : Nat) : (⟨g, 0, none⟩ : Addr).add j = ⟨g, j, none⟩ := by unfold Addr.add; split <;> simp_all
theorem own_base {W : World} {base e size n : Nat} {v : Value} {xs : List Value} (h : W.ownsRow base e size v n xs) : W.ownsRow 0 e size v n xs := by
  obtain ⟨h1, h2⟩ := h
  refine ⟨h1, ?_⟩
  rcases h2 with h2 | ⟨g, cap, cur, hv, _, r⟩
  · exact .inl h2
  · exact .inr ⟨g, cap, cur, hv, Nat.zero_le _, r⟩
theorem flat_one (l : List (List Int)) : ∀ v ∈ flat l, v.oneCell' = true := fun v hv => by
  obtain ⟨x, hx, hv⟩ := List.mem_flatten.1 hv
  obtain ⟨y, hy, rfl⟩ := List.mem_map.1 hx
  exact bv_one y v hv
theorem clone_a {W : World} {g n c : Nat} {l : List (List Int)} (h : W.ownsRow 0 64 64 (.slice (some ⟨g, 0, none⟩) n c) n (flat l)) (h1 : 1 ≤ n) (h2 : n ≤ 1024) :
    Calls Try.prog 27 #[.slice (some ⟨g, 0, none⟩) n c] W fun e W' => ∃ g' c', e = .returned (.slice (some ⟨g', 0, none⟩) n c') ∧ W'.ownsRow 0 64 64 (.slice (some ⟨g', 0, none⟩) n c') n (flat l) ∧ W.heap.size ≤ g' ∧ Below W.heap.size W W' := by
  obtain ⟨i0, hi, hz0, hz1, hz2⟩ := info_parts info64
  have HO := As.mk h
  have hg := own_lt h g rfl
  have hown0 : As ((W.alloc (.cells #[] 64 (0, 0))).ownsRow W.heap.size 64 64 (.slice (some ⟨W.heap.size, 0, none⟩) 0 0) 0 []) := ⟨World.ownsRow_lit W #[] 0 (Nat.le_refl _) (Nat.zero_le _) rfl⟩
  have he : (binOp .eql 58 (.slice (some ⟨g, 0, none⟩) n c) (.slice none 0 0)).run Try.prog W = .ok (.bool false) W := Lib.run_eql_slice_nil W 58 64 (some ⟨g, 0, none⟩) n c 0 0 Try.underlying58
  clear h
  go_enter Try.func27, Try.ntmps27
  go_wp2_with ((at_builtin; refine wpList_append_lies _ rfl _ _ 58 rfl W.heap.size 64 i0 _ 64 64 Try.underlying58 hi hz0 hz1 hz2 rfl (by omega) _ _ _ rfl hown0.out ⟨g, 0, none⟩ n c (flat l) rfl (HO.out.1) (fun j u hu => ?c1) (flat_one l) (by omega) (by unfold maxLen; omega) (by omega) (by simp) _ rfl ?_))
  case c1 => rw [add0, World.cell?_alloc_lt _ _ _ (show g < W.heap.size from hg), HO.out.cellAt j (by rw [← HO.out.1]; exact (List.getElem?_eq_some_iff.1 hu).1)]; exact hu
  intro g' c' w1 hown hgrow hat hlt
  have HO1 := As.mk hown
  have hbg : W.heap.size ≤ g' := (hown.lt g' rfl).1
  have HB : As (Below W.heap.size W w1) := ⟨((Below.refl _ _).alloc (Nat.le_refl _) _).grown hgrow (by simp) (fun k hk => (hown0.out.lt k hk).1)⟩
  clear hown hgrow hat hlt
  go_wp2_with fail
  go_ret
  exact ⟨g', c', rfl, own_base HO1.out, hbg, HB.out⟩
def flushF (s : St) : Int × St := if (actF s).1 = true then (0, { (actF s).2 with sure := s.now, wait := [] }) else (6, (actF s).2)
theorem flush_ok {s : St} {n : Nat} (h : s.Ok n) : (flushF s).2.Ok n := by
  unfold flushF
  split
  · obtain ⟨h1, h2, h3, h4, h5, h6, h7, h8, h9⟩ := act_ok h
    obtain ⟨e1, e2, e3, e4⟩ := act_same s
    exact ⟨h1, h2, h3, by rw [← e1]; exact h3, h5, by rw [← e1]; exact h5, (fun x hx => by cases hx), h8, h9⟩
  · exact act_ok h
theorem flush_nil (W : World) : Calls Try.prog 10 #[.pointer none] W fun e W' => e = .returned (.int .i64 1) ∧ W = W' := by
  go_enter Try.func10, Try.ntmps10
  go_wp2_with fail
  go_ret
  exact ⟨rfl, rfl⟩
theorem flush_a {W : World} {own : Nat → Prop} {b n : Nat} {s : St} (h : Disk W own b n s) :
    Calls Try.prog 10 #[.pointer (some ⟨b, 0, none⟩)] W fun e W' => e = .returned (.int .i64 (flushF s).1) ∧ Disk W' (And' own W) b n (flushF s).2 ∧ Frame own W W' := by
  obtain ⟨hok, g1, c1, g2, c2, v, h⟩ := h
  have OK := As.mk hok
  have H := As.mk h
  have HA := As.mk (act_at h hok)
  clear h hok
  go_enter Try.func10, Try.ntmps10
  go_wp2_with fail
  refine HA.out.mono ?_
  rintro e w1 ⟨rfl, h1, hf1, _, hs1⟩
  clear HA
  cases ha : (actF s).1 with
  | false =>
    have HF : As (flushF s = (6, (actF s).2)) := ⟨by unfold flushF; rw [if_neg (by rw [ha]; decide)]⟩
    have H1 := As.mk h1
    have HF1 := As.mk hf1
    clear h1 hf1 ha
    go_wp2_with fail
    go_ret
    rw [HF.out]
    exact ⟨rfl, ⟨act_ok OK.out, g1, c1, g2, c2, v, H1.out.mono fun _ h => .inl h⟩, HF1.out⟩
  | true =>
    have HF : As (flushF s = (0, { (actF s).2 with sure := s.now, wait := [] })) := ⟨by unfold flushF; rw [if_pos ha]⟩
    have H1 := As.mk h1
    have HF1 := As.mk hf1
    obtain ⟨d0, d1, d2, d3, d4, d5⟩ := h1.cells
    clear h1 hf1 ha
    go_wp2_with fail
    refine (clone_a H1.out.now OK.out.n1 OK.out.n2).mono ?_
    rintro e0 w2 ⟨g', c', rfl, hown, hbg, hb2⟩
    have HO := As.mk hown
    have HB2 := As.mk hb2
    have e1 := (act_same s).1
    have hs2 := hb2.size
    have BR : As (w2.heap[b]? = some (.cells #[.slice (some ⟨g1, 0, none⟩) n c1, .slice (some ⟨g2, 0, none⟩) n c2, v, .int .i64 (actF s).2.limit, .int .i64 (actF s).2.left, .bool (actF s).2.dark] 61 (0, 0))) := ⟨(hb2.block b (blk_lt H1.out.blk)).trans H1.out.blk⟩
    have hbl := blk_lt H1.out.blk
    have hg1 : g1 < w1.heap.size := own_lt H1.out.now g1 rfl
    have E1 := As.mk e1
    clear hown hb2 d0 d1 d2 d3 d4 d5 e1
    have d1 := (blk_cell BR.out 1).trans rfl
    have d2 := (blk_cell BR.out 2).trans rfl
    have f1 := blk_frozen BR.out 1
    have f2 := blk_frozen BR.out 2
    go_wp2_with fail
    go_ret
    rw [HF.out]
    have hg1b : g1 ≠ b := own_ne H1.out.now H1.out.blk (by decide) _ rfl
    have hgb : g' ≠ b := by omega
    refine ⟨rfl, ⟨by have := flush_ok OK.out; rwa [HF.out] at this, g1, c1, g', c', .slice none 0 0, ?_⟩, ?_⟩
    · refine ⟨?_, ?_, ?_, World.ownsRow_nil _ _ _ _, by omega, .inl H.out.o0, .inl H.out.o1, .inr (by omega), fun g hg => by simp [Value.ownBlock] at hg⟩
      · rw [blk_put (blk_put BR.out 1 _) 2]
        simp
      · refine own_keep H1.out.now (fun g hg hl => ?_)
        obtain rfl := ob_eq hg
        rw [Below.heap_setCell _ _ _ _ hg1b, Below.heap_setCell _ _ _ _ hg1b, HB2.out.block _ hl]
      · rw [← E1.out]
        refine own_keep HO.out (fun g hg hl => ?_)
        obtain rfl := ob_eq hg
        rw [Below.heap_setCell _ _ _ _ hgb, Below.heap_setCell _ _ _ _ hgb]
    · exact (((HF1.out.trans (Frame.of_below (own := own) HB2.out (Nat.le_refl _)) (fun _ _ h => h))).setCell (.inl H.out.o0) _).setCell (.inl H.out.o0) _
end Go.Proofs.Ytfhnhkjbfaieiaa.Bl
