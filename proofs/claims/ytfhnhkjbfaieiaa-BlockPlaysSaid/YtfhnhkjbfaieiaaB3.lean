/- A block of one byte again and again (full); are two slices the same bytes (Same). Condition: the bytes are bytes. -/
import Derived.Test.YtfhnhkjbfaieiaaB2
import Derived.WideShapes
namespace Go.Proofs.Ytfhnhkjbfaieiaa.Bl
open Go.RowKit
set_option linter.unusedVariables false
set_option linter.unusedSimpArgs false
theorem info5 : (Try.prog.info? 5).map (fun i => (i.zero, i.size, i.bytes)) = some (some (.int .u8 0), 1, 1) := by kernel_rfl
/-- A row of bytes that a call owns, as a slice of bytes. -/
theorem bytes_of_own {W : World} {base n c g : Nat} {x : List Int} (h : W.ownsRow base 5 1 (.slice (some ⟨g, 0, none⟩) n c) n (bv x)) (hb : ByteOk x) : Bytes W (some ⟨g, 0, none⟩) x := by
  refine ⟨hb, fun _ => ⟨g, 0, rfl, own_lt h g rfl, own_range h 0 _ (fun j v hv => by simpa using hv)⟩⟩
def full64 (c : Int) : List Int := List.replicate 64 c
theorem full_len (c : Int) : (full64 c).length = 64 := by simp [full64]
theorem full_ok (c : Int) (h : 0 ≤ c ∧ c < 256) : ByteOk (full64 c) := fun y hy => by rw [(List.mem_replicate.1 hy).2]; exact h
theorem full_a (c : Int) (W : World) (hc : 0 ≤ c ∧ c < 256) :
    Calls Try.prog 12 #[.int .u8 c] W fun e W' => ∃ g k, e = .returned (.slice (some ⟨g, 0, none⟩) 64 k) ∧ Bytes W' (some ⟨g, 0, none⟩) (full64 c) ∧ W.heap.size ≤ g ∧ Below W.heap.size W W' := by
  obtain ⟨i0, hi, hz0, hz1, hz2⟩ := info_parts info5
  have HC := As.mk hc
  clear hc
  go_enter Try.func12, Try.ntmps12
  go_wp2_with fail
  go_loopg [3, 4] 64 (fun gk v3 v4 w' => ∃ i : Nat, v4 = .int .i64 i ∧ i ≤ 64 ∧ As (gk = 64 - i) ∧ As (w'.ownsRow W.heap.size 5 1 v3 i (bv (List.replicate i c))) ∧ As (Below W.heap.size W w'))
  case atStart => exact ⟨0, rfl, by omega, ⟨rfl⟩, ⟨World.ownsRow_nil _ _ _ _⟩, ⟨Below.refl _ _⟩⟩
  case round =>
    obtain ⟨i, rfl, hi64, HK, HO, HB⟩ := hrel
    by_cases hlt : i < 64
    · go_wp2_with ((at_builtin; refine wpList_append_lies _ rfl _ _ 33 rfl W.heap.size 5 i0 (.int .u8 0) 1 1 Try.underlying33 hi hz0 hz1 hz2 rfl (by decide) _ _ _ rfl (HO.out.alloc _) ⟨wr.heap.size, 0, none⟩ 1 1 [.int .u8 c] rfl rfl (World.news_of_block (blk_new wr _)) (by simp [Value.oneCell']) (by omega) (by unfold maxLen; omega) (by omega) (by have := HB.out.size; simp; omega) _ rfl ?_))
      intro g cap w1 hown hgrow hat hl
      have hs := HB.out.size
      have HO' : As (w1.ownsRow W.heap.size 5 1 (.slice (some ⟨g, 0, none⟩) (i + 1) cap) (i + 1) (bv (List.replicate (i + 1) c))) := ⟨by
        have e : bv (List.replicate (i + 1) c) = bv (List.replicate i c) ++ [.int .u8 c] := by simp [bv, List.replicate_succ']
        rw [e]; exact hown⟩
      have HB' : As (Below W.heap.size W w1) := ⟨(HB.out.alloc hs _).grown hgrow (by simp; omega) (fun k hk => (HO.out.lt k hk).1)⟩
      clear hown hgrow hat hl hs
      go_wp2_with fail
      go_roundg (64 - (i + 1))
      case measure => have := HK.out; omega
      case rel => exact ⟨i + 1, by go_num, by omega, ⟨rfl⟩, HO', HB'⟩
    · obtain rfl : i = 64 := by omega
      obtain ⟨g, cap, rfl, hbg, hl⟩ := HO.out.form (by omega)
      go_wp2_with fail
      go_ret
      exact ⟨g, cap, rfl, bytes_of_own HO.out (full_ok c HC.out), hbg, HB.out⟩
theorem str_inj : ∀ (x y : List Int), ByteOk x → ByteOk y → strOfNums x = strOfNums y → x = y := by
  intro x y hx hy h
  have h1 : (strOfNums x).data.toList = (strOfNums y).data.toList := by rw [h]
  rw [strOfNums_data, strOfNums_data] at h1
  clear h
  induction x generalizing y with
  | nil => cases y with
    | nil => rfl
    | cons b y => simp at h1
  | cons a x ih => cases y with
    | nil => simp at h1
    | cons b y =>
      simp only [List.map_cons, List.cons.injEq] at h1
      have ha := hx a (List.mem_cons_self ..)
      have hb := hy b (List.mem_cons_self ..)
      have e : a = b := by
        have := congrArg UInt8.toNat h1.1
        simp at this
        omega
      rw [e, ih y (fun z hz => hx z (List.mem_cons_of_mem _ hz)) (fun z hz => hy z (List.mem_cons_of_mem _ hz)) h1.2]
theorem conv_bytes {W : World} {A : Option Addr} {x : List Int} (h : Bytes W A x) (c : Nat) : (convert 33 9 (.slice A x.length c)).run Try.prog W = .ok (.string (strOfNums x)) W := by
  by_cases hx : x = []
  · subst hx
    cases A with
    | none => rw [run_convert_bytes_nil W 33 5 Try.underlying33 Try.underlying5 _ _ 9 Try.underlying9]; rfl
    | some a =>
      rw [run_convert_bytes_string W 33 9 5 _ _ c Try.underlying33 Try.underlying5 Try.underlying9, run_bytesToString W a _ c [] (by rfl)]
      rfl
  · obtain ⟨q, o, rfl, _, hr⟩ := h.2 hx
    refine run_convert_bytes_arg W 33 5 Try.underlying33 Try.underlying5 q o x.length c x rfl (fun i hi => ?_) 9 Try.underlying9
    refine hr i _ ?_
    rw [bv_get, List.getElem?_eq_getElem hi]
    simp [List.getD, List.getElem?_eq_getElem hi]
theorem same_a (A B : Option Addr) (x y : List Int) (c d : Nat) (W : World) (hx : Bytes W A x) (hy : Bytes W B y) :
    Calls Try.prog 14 #[.slice A x.length c, .slice B y.length d] W fun e W' => e = .returned (.bool (decide (x = y))) ∧ W = W' := by
  have k1 := conv_bytes hx c
  have k2 := conv_bytes hy d
  have e : As (((strOfNums x).toList == (strOfNums y).toList) = decide (x = y)) := ⟨by
    by_cases h : x = y
    · subst h; simp
    · rw [decide_eq_false h]
      refine beq_eq_false_iff_ne.mpr (fun h' => h (str_inj x y hx.1 hy.1 ?_))
      rw [ByteArray.toList_eq, ByteArray.toList_eq] at h'
      exact Go.WideShapes.bytes_inj h'⟩
  clear hx hy
  go_enter Try.func14, Try.ntmps14
  go_wp2_with fail
  go_ret
  exact ⟨congrArg (fun q => Ending.returned (.bool q)) e.out, rfl⟩
end Go.Proofs.Ytfhnhkjbfaieiaa.Bl
