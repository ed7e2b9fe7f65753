/- The functions of layer 6 that the print does not take: the binary search over starts, slices.Clone, epochs.Fork: each comes to the answers of its Lean function. Condition of the search: the starts are a table (its Lean function has no answer elsewhere). -/
import Derived.Test.YtdbebophchggfaaE1
import Derived.Lib.Hide
import Derived.LoopN
import Derived.Lib.LazyBuf
namespace Go.Proofs.Ytdbebophchggfaa.Ep
open Go.RowKit Go.Proofs.YtdbebophchggfaaW.PrintWords Go.Proofs.YtdbebophchggfaaW.PrintLast Go.Proofs.YtdbebophchggfaaW.PrintMore
theorem min2_mn (k k' : IntKind) (x y : Int) : Builtin.min2 (.int k x) (.int k' y) = pure (.int k (mn x y)) := by rw [min2_int]; rfl
theorem max2_mx (k k' : IntKind) (x y : Int) : Builtin.max2 (.int k x) (.int k' y) = pure (.int k (mx x y)) := by rw [max2_int]; rfl
attribute [local go_sem] max2_mx min2_mn max_two min_two
set_option linter.unusedVariables false
set_option linter.unusedSimpArgs false

/-- Do starts rise, from a start on? -/
def tblFrom (e n : Int) : List S37 → Bool
  | [] => true
  | s :: t => decide (e < s.f0) && (decide (n < s.f1) && tblFrom s.f0 s.f1 t)
def tbl (l : List S37) : Bool := tblFrom 0 0 l

theorem check_l0 (k : Nat) (l : List S37) (n i e m : Int) : epochs_Check.l0 (k + 1) l n i e m = if i < n then (if 0 ≤ i then (if i < (l.length : Int) then (if ((rd_T37 l i).f0) ≤ e then (some 60) else (if ((rd_T37 l i).f1) ≤ m then (some 60) else (epochs_Check.l0 k l n (wrap64 (i + 1)) ((rd_T37 l i).f0) ((rd_T37 l i).f1)))) else (none)) else (none)) else (some 0) := rfl
theorem rd_at (l : List S37) (i : Nat) (h : i < l.length) : rd_T37 l (i : Int) = l[i] := by
  unfold rd_T37
  rw [Int.toNat_natCast]
  simp [List.getD_eq_getElem?_getD, List.getElem?_eq_getElem h]
theorem check_from (l0 : List S37) (hl : l0.length ≤ 9223372036854775807) : ∀ (d i : Nat) (e n : Int), i + d = l0.length →
    epochs_Check.l0 (d + 1) l0 (l0.length : Int) i e n = some (if tblFrom e n (l0.drop i) = true then 0 else 60) := by
  intro d
  induction d with
  | zero =>
    intro i e n h
    rw [List.drop_eq_nil_of_le (by omega), check_l0, if_neg (by omega)]
    rfl
  | succ d ih =>
    intro i e n h
    have hi : i < l0.length := by omega
    have hd : l0.drop i = l0[i] :: l0.drop (i + 1) := List.drop_eq_getElem_cons hi
    have hw : wrap64 ((i : Int) + 1) = ((i + 1 : Nat) : Int) := by unfold wrap64; omega
    rw [check_l0, if_pos (by omega), if_pos (by omega), if_pos (by omega), rd_at l0 i hi, hw, ih (i + 1) _ _ (by omega)]
    by_cases h1 : l0[i].f0 ≤ e
    · have ht : tblFrom e n (l0.drop i) = false := by rw [hd]; simp [tblFrom, show ¬ e < l0[i].f0 by omega]
      rw [if_pos h1, ht]
      rfl
    · rw [if_neg h1]
      by_cases h2 : l0[i].f1 ≤ n
      · have ht : tblFrom e n (l0.drop i) = false := by rw [hd]; simp [tblFrom, show ¬ n < l0[i].f1 by omega]
        rw [if_pos h2, ht]
        rfl
      · have ht : tblFrom e n (l0.drop i) = tblFrom l0[i].f0 l0[i].f1 (l0.drop (i + 1)) := by rw [hd]; simp [tblFrom, show e < l0[i].f0 by omega, show n < l0[i].f1 by omega]
        rw [if_neg h2, ht]
theorem check_eq (l0 : List S37) (hl : l0.length ≤ 9223372036854775807) : epochs_Check.f (l0.length + 1) l0 = some (if tbl l0 = true then 0 else 60) := by
  have := check_from l0 hl l0.length 0 0 0 (by omega)
  rw [List.drop_zero] at this
  exact this

/-- How many starts are the same, from the first one on. -/
def cp : List S37 → List S37 → Nat
  | a :: s, b :: t => if (a.f0 == b.f0 && (a.f1 == b.f1)) = true then cp s t + 1 else 0
  | _, _ => 0
theorem cp_le : ∀ (a b : List S37), cp a b ≤ a.length ∧ cp a b ≤ b.length
  | [], [] => by simp [cp]
  | [], _ :: _ => by simp [cp]
  | _ :: _, [] => by simp [cp]
  | a :: s, b :: t => by
    have := cp_le s t
    simp only [cp]
    split <;> simp <;> omega
theorem cp_eq : ∀ (a b : List S37) (j : Nat), j < cp a b → ((rd_T37 a j).f0 == (rd_T37 b j).f0 && ((rd_T37 a j).f1 == (rd_T37 b j).f1)) = true
  | [], _, j => by simp [cp]
  | _ :: _, [], j => by simp [cp]
  | a :: s, b :: t, j => by
    simp only [cp]
    split
    · rename_i he
      intro hj
      cases j with
      | zero => simpa [rd_T37] using he
      | succ j =>
        have := cp_eq s t j (by omega)
        simpa [rd_T37] using this
    · omega
theorem cp_ne : ∀ (a b : List S37), cp a b < a.length → cp a b < b.length → ((rd_T37 a (cp a b : Nat)).f0 == (rd_T37 b (cp a b : Nat)).f0 && ((rd_T37 a (cp a b : Nat)).f1 == (rd_T37 b (cp a b : Nat)).f1)) = false
  | [], _ => by simp [cp]
  | _ :: _, [] => by simp [cp]
  | a :: s, b :: t => by
    simp only [cp]
    split
    · rename_i he
      intro h1 h2
      have := cp_ne s t (by simpa using h1) (by simpa using h2)
      simpa [rd_T37] using this
    · rename_i he
      intro h1 h2
      simpa [rd_T37] using he
theorem eqlS (x y : S37) (b : Bool) (h : (x.f0 == y.f0 && (x.f1 == y.f1)) = b) (w : World) : (binOp .eql 37 (.agg #[.int .u32 x.f0, .int .u64 x.f1]) (.agg #[.int .u32 y.f0, .int .u64 y.f1])).run Try.prog w = .ok (.bool b) w := by
  simp only [binOp]
  simp [Op.equal, Op.maxDepth, eqA37 9998 w x.f0 y.f0 x.f1 y.f1, h]
theorem neqS (x y : S37) (b : Bool) (h : (!(x.f0 == y.f0) || (!(x.f1 == y.f1))) = b) (w : World) : (binOp .neq 37 (.agg #[.int .u32 x.f0, .int .u64 x.f1]) (.agg #[.int .u32 y.f0, .int .u64 y.f1])).run Try.prog w = .ok (.bool b) w := by
  have h' : (!(x.f0 == y.f0 && (x.f1 == y.f1))) = b := by rw [← h, Bool.not_and]
  simp only [binOp]
  simp [Op.equal, Op.maxDepth, eqA37 9998 w x.f0 y.f0 x.f1 y.f1]
  simpa using h'
def forkE (l0 l2 : List S37) (e : Int) : Int :=
  let i := cp l0 l2
  let e1 := if i < l0.length then mn e (IntKind.u64.wrap ((rd_T37 l0 (i : Int)).f1 - 1)) else e
  if i < l2.length then mn e1 (IntKind.u64.wrap ((rd_T37 l2 (i : Int)).f1 - 1)) else e1

set_option maxHeartbeats 8000000 in
set_option maxRecDepth 100000 in
theorem fork_bad1 (A0 : Option Addr) (c0 : Nat) (l0 : List (S37)) (a1 : Int) (A2 : Option Addr) (c2 : Nat) (l2 : List (S37)) (a3 : Int) (w : World) (hr0 : Kd.C k37 w A0 l0.length l0) (hc0 : l0.length ≤ c0) (hr2 : Kd.C k37 w A2 l2.length l2) (hc2 : l2.length ≤ c2)
    (h : Hid (tbl l0 = false)) :
    Calls Try.prog 20 #[.slice A0 l0.length c0, .int .u64 a1, .slice A2 l2.length c2, .int .u64 a3] w fun e w' => e = .returned (.int .u64 0) ∧ Below w.heap.size w w' := by
  have HR0 := Aside0.mk hr0
  clear hr0 hr2
  have hl0 : Aside0 (l0.length ≤ 9223372036854775807) := ⟨HR0.out.2.1⟩
  go_enter Try.func20, Try.ntmps20
  go_wp2_with fail
  refine (epochs_Check.calls (l0.length + 1) A0 c0 l0 60 w HR0.out hc0 (by rw [check_eq l0 hl0.out, h.out]; rfl)).mono ?_
  rintro e w1 ⟨rfl, hb1⟩
  go_wp2_with fail
  go_ret
  exact ⟨rfl, hb1⟩
set_option maxHeartbeats 8000000 in
set_option maxRecDepth 100000 in
theorem fork_bad2 (A0 : Option Addr) (c0 : Nat) (l0 : List (S37)) (a1 : Int) (A2 : Option Addr) (c2 : Nat) (l2 : List (S37)) (a3 : Int) (w : World) (hr0 : Kd.C k37 w A0 l0.length l0) (hc0 : l0.length ≤ c0) (hr2 : Kd.C k37 w A2 l2.length l2) (hc2 : l2.length ≤ c2)
    (h : Hid (tbl l0 = true)) (h2 : Hid (tbl l2 = false)) :
    Calls Try.prog 20 #[.slice A0 l0.length c0, .int .u64 a1, .slice A2 l2.length c2, .int .u64 a3] w fun e w' => e = .returned (.int .u64 0) ∧ Below w.heap.size w w' := by
  have HR0 := Aside0.mk hr0
  have HR2 := Aside0.mk hr2
  clear hr0 hr2
  have hl0 : Aside0 (l0.length ≤ 9223372036854775807) := ⟨HR0.out.2.1⟩
  have hl2 : Aside0 (l2.length ≤ 9223372036854775807) := ⟨HR2.out.2.1⟩
  go_enter Try.func20, Try.ntmps20
  go_wp2_with fail
  refine (epochs_Check.calls (l0.length + 1) A0 c0 l0 0 w HR0.out hc0 (by rw [check_eq l0 hl0.out, h.out]; rfl)).mono ?_
  rintro e w1 ⟨rfl, hb1⟩
  go_wp2_with fail
  refine (epochs_Check.calls (l2.length + 1) A2 c2 l2 60 w1 (Kd.C_below HR2.out hb1) hc2 (by rw [check_eq l2 hl2.out, h2.out]; rfl)).mono ?_
  rintro e w2 ⟨rfl, hb2⟩
  go_wp2_with fail
  go_ret
  exact ⟨rfl, below_step hb1 hb2⟩
set_option maxHeartbeats 8000000 in
set_option maxRecDepth 100000 in
theorem fork_good (A0 : Option Addr) (c0 : Nat) (l0 : List (S37)) (a1 : Int) (A2 : Option Addr) (c2 : Nat) (l2 : List (S37)) (a3 : Int) (w : World) (hr0 : Kd.C k37 w A0 l0.length l0) (hc0 : l0.length ≤ c0) (hr2 : Kd.C k37 w A2 l2.length l2) (hc2 : l2.length ≤ c2)
    (h : Hid (tbl l0 = true)) (h2 : Hid (tbl l2 = true)) :
    Calls Try.prog 20 #[.slice A0 l0.length c0, .int .u64 a1, .slice A2 l2.length c2, .int .u64 a3] w fun e w' => e = .returned (.int .u64 (forkE l0 l2 (mn a1 a3))) ∧ Below w.heap.size w w' := by
  have HR0 := Aside0.mk hr0
  have HR2 := Aside0.mk hr2
  clear hr0 hr2
  have hl0 : l0.length ≤ 9223372036854775807 := HR0.out.2.1
  have hl2 : l2.length ≤ 9223372036854775807 := HR2.out.2.1
  go_enter Try.func20, Try.ntmps20
  go_wp2_with fail
  refine (epochs_Check.calls (l0.length + 1) A0 c0 l0 0 w HR0.out hc0 (by rw [check_eq l0 hl0, h.out]; rfl)).mono ?_
  rintro e w1 ⟨rfl, hb1⟩
  go_wp2_with fail
  refine (epochs_Check.calls (l2.length + 1) A2 c2 l2 0 w1 (Kd.C_below HR2.out hb1) hc2 (by rw [check_eq l2 hl2, h2.out]; rfl)).mono ?_
  rintro e w2 ⟨rfl, hb2⟩
  have HB := Aside0.mk (below_step hb1 hb2)
  clear hb1 hb2
  have hN : mx (l0.length : Int) (l2.length : Int) = ((max l0.length l2.length : Nat) : Int) := by unfold mx; split <;> omega
  obtain ⟨N, hNN⟩ : ∃ N : Nat, Aside0 (max l0.length l2.length = N) := ⟨_, ⟨rfl⟩⟩
  rw [hNN.out] at hN
  have hNl : N ≤ 9223372036854775807 := by have := hNN.out; omega
  go_wp2_with fail
  clear hN
  go_loopg [9, 29] N (fun gk v9 v29 w' => ∃ i : Nat, v9 = .int .u64 (mn a1 a3) ∧ v29 = .int .i64 i ∧ Aside0 (gk = N - i) ∧ Aside0 (i ≤ cp l0 l2 ∧ i ≤ N) ∧ Aside0 (Below w.heap.size w w'))
  case atStart => exact ⟨0, rfl, rfl, ⟨rfl⟩, ⟨by omega, by omega⟩, HB⟩
  case round =>
    clear HB
    obtain ⟨i, rfl, rfl, HK, HI, HB⟩ := hrel
    have hcp := cp_le l0 l2
    have hi1 := HI.out.1
    have hi2 := HI.out.2
    by_cases hlt : i < cp l0 l2
    · have hiN : i < N := by have := hNN.out; omega
      have hia : i < l0.length := by omega
      have hib : i < l2.length := by omega
      obtain ⟨ad, ea, hx0, hx1⟩ := at_T37 HR0.out (i : Int) (by omega) (by omega)
      obtain ⟨bd, eb, hy0, hy1⟩ := at_T37 HR2.out (i : Int) (by omega) (by omega)
      cases ea
      cases eb
      replace hx0 := (HB.out.cell (World.block_lt_of_cell? w _ hx0)).trans hx0
      replace hx1 := (HB.out.cell (World.block_lt_of_cell? w _ hx1)).trans hx1
      replace hy0 := (HB.out.cell (World.block_lt_of_cell? w _ hy0)).trans hy0
      replace hy1 := (HB.out.cell (World.block_lt_of_cell? w _ hy1)).trans hy1
      rw [Int.toNat_natCast] at hx0 hx1 hy0 hy1
      have heq := eqlS _ _ _ (cp_eq l0 l2 i hlt)
      clear hcp
      go_wp2_with fail
      go_quiet (fail)
      go_wp2_with fail
      go_roundg (N - (i + 1))
      case measure => have := HK.out; omega
      case rel => exact ⟨i + 1, rfl, by go_num, ⟨rfl⟩, ⟨by omega, by omega⟩, ⟨by repeat (first | (with_reducible first | exact HB.out | apply pw_below_drewN | apply below_drew1) | exact HB.out)⟩⟩
    · have hie : i = cp l0 l2 := by omega
      have i0 : ∀ (x y : Value) (w : World), (Instr.index 47 (.agg #[x, y]) (.int .i64 0)).run Try.prog w = .ok x w := fun _ _ _ => by kernel_rfl
      have i1 : ∀ (x y : Value) (w : World), (Instr.index 47 (.agg #[x, y]) (.int .i64 1)).run Try.prog w = .ok y w := fun _ _ _ => by kernel_rfl
      rcases Nat.lt_or_ge i l0.length with hia | hia <;> rcases Nat.lt_or_ge i l2.length with hib | hib
      · have hiN : i < N := by have := hNN.out; omega
        have hda : decide (i < l0.length) = true := decide_eq_true (by omega)
        have hdb : decide (i < l2.length) = true := decide_eq_true (by omega)
        obtain ⟨ad, ea, hx0, hx1⟩ := at_T37 HR0.out (i : Int) (by omega) (by omega)
        cases ea
        replace hx0 := (HB.out.cell (World.block_lt_of_cell? w _ hx0)).trans hx0
        replace hx1 := (HB.out.cell (World.block_lt_of_cell? w _ hx1)).trans hx1
        rw [Int.toNat_natCast] at hx0 hx1
        obtain ⟨bd, eb, hy0, hy1⟩ := at_T37 HR2.out (i : Int) (by omega) (by omega)
        cases eb
        replace hy0 := (HB.out.cell (World.block_lt_of_cell? w _ hy0)).trans hy0
        replace hy1 := (HB.out.cell (World.block_lt_of_cell? w _ hy1)).trans hy1
        rw [Int.toNat_natCast] at hy0 hy1
        have hne := cp_ne l0 l2 (by omega) (by omega)
        have hfin : Aside0 (forkE l0 l2 (mn a1 a3) = mn (mn (mn a1 a3) (IntKind.u64.wrap ((rd_T37 l0 (i : Int)).f1 - 1))) (IntKind.u64.wrap ((rd_T37 l2 (i : Int)).f1 - 1))) := ⟨by simp [forkE, ← hie, hia, hib]⟩
        rw [← hie] at hne
        have hne2 := eqlS _ _ _ hne
        clear hne
        clear hcp hie hlt
        go_wp2_with fail
        go_quiet (fail)
        go_wp2_with fail
        refine wp_loop_rounds 3 ?_
        rw [rounds_succ]
        go_wp2_with fail
        rw [rounds_succ]
        go_wp2_with fail
        rw [rounds_succ]
        go_wp2_with fail
        go_ret
        exact ⟨by rw [hfin.out]; rfl, by repeat (first | (with_reducible first | exact HB.out | apply pw_below_drewN | apply below_drew1) | exact HB.out)⟩
      · have hiN : i < N := by have := hNN.out; omega
        have hda : decide (i < l0.length) = true := decide_eq_true (by omega)
        have hdb : decide (i < l2.length) = false := decide_eq_false (by omega)
        obtain ⟨ad, ea, hx0, hx1⟩ := at_T37 HR0.out (i : Int) (by omega) (by omega)
        cases ea
        replace hx0 := (HB.out.cell (World.block_lt_of_cell? w _ hx0)).trans hx0
        replace hx1 := (HB.out.cell (World.block_lt_of_cell? w _ hx1)).trans hx1
        rw [Int.toNat_natCast] at hx0 hx1
        have hfin : Aside0 (forkE l0 l2 (mn a1 a3) = mn (mn a1 a3) (IntKind.u64.wrap ((rd_T37 l0 (i : Int)).f1 - 1))) := ⟨by simp [forkE, ← hie, hia, show ¬ i < l2.length by omega]⟩
        clear hcp hie hlt
        go_wp2_with fail
        go_quiet (fail)
        go_wp2_with fail
        refine wp_loop_rounds 3 ?_
        rw [rounds_succ]
        go_wp2_with fail
        rw [rounds_succ]
        go_wp2_with fail
        rw [rounds_succ]
        go_wp2_with fail
        go_ret
        exact ⟨by rw [hfin.out]; rfl, by repeat (first | (with_reducible first | exact HB.out | apply pw_below_drewN | apply below_drew1) | exact HB.out)⟩
      · have hiN : i < N := by have := hNN.out; omega
        have hda : decide (i < l0.length) = false := decide_eq_false (by omega)
        have hdb : decide (i < l2.length) = true := decide_eq_true (by omega)
        obtain ⟨bd, eb, hy0, hy1⟩ := at_T37 HR2.out (i : Int) (by omega) (by omega)
        cases eb
        replace hy0 := (HB.out.cell (World.block_lt_of_cell? w _ hy0)).trans hy0
        replace hy1 := (HB.out.cell (World.block_lt_of_cell? w _ hy1)).trans hy1
        rw [Int.toNat_natCast] at hy0 hy1
        have hfin : Aside0 (forkE l0 l2 (mn a1 a3) = mn (mn a1 a3) (IntKind.u64.wrap ((rd_T37 l2 (i : Int)).f1 - 1))) := ⟨by simp [forkE, ← hie, hib, show ¬ i < l0.length by omega]⟩
        clear hcp hie hlt
        go_wp2_with fail
        go_quiet (fail)
        go_wp2_with fail
        refine wp_loop_rounds 3 ?_
        rw [rounds_succ]
        go_wp2_with fail
        rw [rounds_succ]
        go_wp2_with fail
        rw [rounds_succ]
        go_wp2_with fail
        go_ret
        exact ⟨by rw [hfin.out]; rfl, by repeat (first | (with_reducible first | exact HB.out | apply pw_below_drewN | apply below_drew1) | exact HB.out)⟩
      · have hiN : ¬ i < N := by have := hNN.out; omega
        have hfin : Aside0 (forkE l0 l2 (mn a1 a3) = mn a1 a3) := ⟨by simp [forkE, ← hie, show ¬ i < l0.length by omega, show ¬ i < l2.length by omega]⟩
        go_wp2_with fail
        go_ret
        exact ⟨by rw [hfin.out]; rfl, HB.out⟩


theorem find1_le (e l x : Int) (w : World) (h : l ≤ x) : Calls Try.prog 31 #[.agg #[.int .u32 e, .int .u64 l], .int .u64 x] w fun en w' => en = .returned (.int .i64 (-1)) ∧ Below w.heap.size w w' := by
  go_enter Try.func31, Try.ntmps31
  go_wp2
  go_ret
  exact ⟨rfl, below_alloc (Below.refl _ _) _⟩
theorem find1_gt (e l x : Int) (w : World) (h : x < l) : Calls Try.prog 31 #[.agg #[.int .u32 e, .int .u64 l], .int .u64 x] w fun en w' => en = .returned (.int .i64 1) ∧ Below w.heap.size w w' := by
  have h' : ¬ l ≤ x := by omega
  go_enter Try.func31, Try.ntmps31
  go_wp2
  go_ret
  exact ⟨rfl, below_alloc (Below.refl _ _) _⟩

theorem mid_eq (p q n : Nat) (h1 : p ≤ q) (h2 : q ≤ n) (hn : n ≤ 9223372036854775807) : wrap64 (IntKind.u64.wrap (wrap64 ((p : Int) + (q : Int))) / 2) = (((p + q) / 2 : Nat) : Int) := by
  have h : ∀ y : Int, IntKind.u64.wrap y = y % 18446744073709551616 := fun _ => rfl
  rw [h]
  unfold wrap64
  omega
set_option maxHeartbeats 8000000 in
set_option maxRecDepth 100000 in
theorem search_calls (A0 : Option Addr) (c0 : Nat) (l0 : List S37) (x : Int) (w : World) (hr0 : Kd.C k37 w A0 l0.length l0) (hc0 : l0.length ≤ c0) (hinc : Hid (∀ i j : Nat, i ≤ j → j < l0.length → (rd_T37 l0 i).f1 ≤ (rd_T37 l0 j).f1)) :
    Calls Try.prog 30 #[.slice A0 l0.length c0, .int .u64 x, .func (.func 31) #[] #[]] w fun e w' => ∃ (p : Nat) (b : Bool), (e = .returned (.tuple #[.int .i64 p, .bool b]) ∧ p ≤ l0.length ∧ (∀ k : Nat, k < p → (rd_T37 l0 k).f1 ≤ x) ∧ (∀ k : Nat, p ≤ k → k < l0.length → x < (rd_T37 l0 k).f1)) ∧ Below w.heap.size w w' := by
  have HR0 := Aside0.mk hr0
  have hlen : l0.length ≤ 9223372036854775807 := hr0.2.1
  clear hr0
  go_enter Try.func30, Try.ntmps30
  go_wp2_with fail
  go_loopg [9, 10] l0.length (fun gk i j w' => ∃ (p q : Nat), i = .int .i64 p ∧ j = .int .i64 q ∧ Aside0 (gk = q - p) ∧ Aside0 (p ≤ q ∧ q ≤ l0.length) ∧ Aside0 (∀ k : Nat, k < p → (rd_T37 l0 k).f1 ≤ x) ∧ Aside0 (∀ k : Nat, q ≤ k → k < l0.length → x < (rd_T37 l0 k).f1) ∧ Aside0 (Below w.heap.size w w'))
  case atStart => exact ⟨0, l0.length, rfl, rfl, ⟨rfl⟩, ⟨by omega, by omega⟩, ⟨fun k hk => by omega⟩, ⟨fun k hk hk' => by omega⟩, ⟨Below.refl _ _⟩⟩
  case round =>
    obtain ⟨p, q, rfl, rfl, HK, HPQ, HL, HG, HB⟩ := hrel
    have hpq := HPQ.out.1
    have hql := HPQ.out.2
    by_cases hlt : p < q
    · obtain ⟨m, hm⟩ : ∃ m : Nat, Aside0 (m = (p + q) / 2) := ⟨_, ⟨rfl⟩⟩
      have hmid := mid_eq p q _ hpq hql hlen
      rw [← hm.out] at hmid
      have hm1 : m < l0.length := by have := hm.out; omega
      obtain ⟨ad, ea, hx0, hx1⟩ := at_T37 HR0.out (m : Int) (by omega) (by omega)
      cases ea
      replace hx0 := (HB.out.cell (World.block_lt_of_cell? w _ hx0)).trans hx0
      replace hx1 := (HB.out.cell (World.block_lt_of_cell? w _ hx1)).trans hx1
      rw [Int.toNat_natCast] at hx0 hx1
      by_cases hc : (rd_T37 l0 m).f1 ≤ x
      · go_wp2_with fail
        refine (find1_le _ _ _ _ hc).mono ?_
        rintro e w1 ⟨rfl, hb1⟩
        go_wp2_with fail
        go_roundg (q - (m + 1))
        case measure => have := HK.out; have := hm.out; omega
        case rel => exact ⟨m + 1, q, by first | go_num | (rw [hmid]; go_num), rfl, ⟨rfl⟩, ⟨by have := hm.out; omega, hql⟩, ⟨fun k hk => Int.le_trans (hinc.out k m (by omega) hm1) hc⟩, HG, ⟨below_step HB.out hb1⟩⟩
      · go_wp2_with fail
        refine (find1_gt _ _ _ _ (by omega)).mono ?_
        rintro e w1 ⟨rfl, hb1⟩
        go_wp2_with fail
        go_roundg (m - p)
        case measure => have := HK.out; have := hm.out; omega
        case rel => exact ⟨p, m, rfl, by first | rfl | rw [hmid], ⟨rfl⟩, ⟨by have := hm.out; omega, by omega⟩, HL, ⟨fun k hk hk' => Int.lt_of_lt_of_le (by omega) (hinc.out m k hk hk')⟩, ⟨below_step HB.out hb1⟩⟩
    · obtain rfl : p = q := by omega
      clear hlt
      by_cases hp : p < l0.length
      · obtain ⟨ad, ea, hx0, hx1⟩ := at_T37 HR0.out (p : Int) (by omega) (by omega)
        cases ea
        replace hx0 := (HB.out.cell (World.block_lt_of_cell? w _ hx0)).trans hx0
        replace hx1 := (HB.out.cell (World.block_lt_of_cell? w _ hx1)).trans hx1
        rw [Int.toNat_natCast] at hx0 hx1
        have hc := HG.out p (by omega) hp
        go_wp2_with fail
        refine (find1_gt _ _ _ _ hc).mono ?_
        rintro e w1 ⟨rfl, hb1⟩
        go_wp2_with fail
        go_ret2
        exact ⟨p, false, ⟨rfl, hql, HL.out, HG.out⟩, below_step HB.out hb1⟩
      · go_wp2_with fail
        go_ret2
        exact ⟨p, false, ⟨rfl, hql, HL.out, HG.out⟩, HB.out⟩

set_option maxHeartbeats 8000000 in
set_option maxRecDepth 100000 in
theorem clone_some (ad : Addr) (c0 : Nat) (l0 : List (S37)) (w : World) (hr0 : Kd.C k37 w (some ad) l0.length l0) (hc0 : l0.length ≤ c0) (hl : l0.length < 8796093022208) :
    Calls Try.prog 29 #[.slice (some ad) l0.length c0] w fun e w' => ∃ v0_ : Value, e = .returned (v0_) ∧ Kd.R k37 37 w' w.heap.size (fun _ => True) v0_ l0 ∧ Below w.heap.size w w' := by
  have HR0 := Aside0.mk hr0
  clear hr0
  have hnil : ∀ (w : World) (a : Option Addr) (l c : Nat), (binOp .eql 22 (.slice a l c) (.slice none 0 0)).run Try.prog w = .ok (.bool a.isNone) w := fun w a l c => run_eql_slice_nil w 22 37 a l c Try.underlying22
  go_enter Try.func29, Try.ntmps29
  have HE : Aside0 (Kd.R k37 37 (w.alloc (.cells #[] 37)) w.heap.size (fun _ => True) (.slice (some ⟨w.heap.size, 0, none⟩) 0 0) ([] : List S37)) := ⟨⟨fun _ _ => trivial, OwnRow.lit w w.heap.size (ps := []) (inner := []) (Reps.none _ _) (Nat.le_refl _) (by simp)⟩⟩
  go_wp2_with (first | ((with_reducible refine gate_builtin (b := .append) (xs := #[.tmp 5, .tmp 6]) rfl ?_); at_builtin; refine Kd.R_append_rows k37 (w0 := w) w.heap.size rfl (.tmp 5) (.tmp 6) 22 37 (.agg #[(.int .u32 0), (.int .u64 0)]) 16 rfl Try.underlying22 info37 rfl (by decide) (by omega) (.slice (some ⟨w.heap.size, 0, none⟩) 0 0) ([] : List S37) l0 _ _ _ (fun _ => True) (fun _ => False) rfl rfl ?aO ?aR (fun _ _ h => h) (fun _ h => h.elim) ?aF ?aB ?aS ?aL ?_; (case aR => exact Kd.C_alloc HR0.out _); (case aB => exact below_alloc (Below.refl _ _) _); (case aF => exact (fun _ _ => trivial)); (case aO => exact HE.out); (case aS => simp); (case aL => simp; omega); intro v1 w3 ho hb hg hat; have HO := Aside0.mk ho; have HB := Aside0.mk hb; clear ho hb hg hat))
  go_ret
  exact ⟨_, rfl, HO.out, HB.out⟩
set_option maxHeartbeats 8000000 in
set_option maxRecDepth 100000 in
theorem clone_none (c0 n0 : Nat) (w : World) :
    Calls Try.prog 29 #[.slice none n0 c0] w fun e w' => ∃ v0_ : Value, e = .returned (v0_) ∧ Kd.R k37 37 w' w.heap.size (fun _ => True) v0_ [] ∧ Below w.heap.size w w' := by
  have hnil : ∀ (w : World) (a : Option Addr) (l c : Nat), (binOp .eql 22 (.slice a l c) (.slice none 0 0)).run Try.prog w = .ok (.bool a.isNone) w := fun w a l c => run_eql_slice_nil w 22 37 a l c Try.underlying22
  go_enter Try.func29, Try.ntmps29
  go_wp2_with fail
  go_ret
  exact ⟨_, rfl, Kd.R_nil _ _ _ _ _, Below.refl _ _⟩

theorem tblFrom_rd : ∀ (l : List S37) (e n : Int), tblFrom e n l = true → (∀ i : Nat, i < l.length → e < (rd_T37 l i).f0 ∧ n < (rd_T37 l i).f1) ∧ (∀ i j : Nat, i < j → j < l.length → (rd_T37 l i).f0 < (rd_T37 l j).f0 ∧ (rd_T37 l i).f1 < (rd_T37 l j).f1)
  | [], _, _, _ => ⟨fun i h => by simp at h, fun i j _ h => by simp at h⟩
  | s :: t, e, n, h => by
    simp only [tblFrom, Bool.and_eq_true, decide_eq_true_eq] at h
    obtain ⟨h1, h2⟩ := tblFrom_rd t _ _ h.2.2
    have hz : rd_T37 (s :: t) ((0 : Nat) : Int) = s := rfl
    have hs : ∀ k : Nat, rd_T37 (s :: t) ((k + 1 : Nat) : Int) = rd_T37 t (k : Int) := fun k => by unfold rd_T37; rw [Int.toNat_natCast, Int.toNat_natCast]; rfl
    refine ⟨fun i hi => ?_, fun i j hij hj => ?_⟩
    · cases i with
      | zero => rw [hz]; exact ⟨h.1, h.2.1⟩
      | succ i =>
        rw [hs]
        have := h1 i (by simpa using hi)
        omega
    · cases j with
      | zero => omega
      | succ j =>
        rw [hs]
        cases i with
        | zero => rw [hz]; exact h1 j (by simpa using hj)
        | succ i => rw [hs]; exact h2 i j (by omega) (by simpa using hj)
theorem tbl_mono {l : List S37} (h : tbl l = true) (i j : Nat) (hij : i ≤ j) (hj : j < l.length) : (rd_T37 l i).f1 ≤ (rd_T37 l j).f1 := by
  rcases Nat.lt_or_ge i j with h' | h'
  · have := (tblFrom_rd l 0 0 h).2 i j h' hj
    omega
  · obtain rfl : i = j := by omega
    exact Int.le_refl _
/-- How many starts have an Lsn that is not above one. -/
def cnt (l : List S37) (x : Int) : Nat := (l.takeWhile (fun s => decide (s.f1 ≤ x))).length
theorem cnt_eq (x : Int) : ∀ (l : List S37) (p : Nat), p ≤ l.length → (∀ k : Nat, k < p → (rd_T37 l k).f1 ≤ x) → (∀ k : Nat, p ≤ k → k < l.length → x < (rd_T37 l k).f1) → cnt l x = p
  | [], p, hp, _, _ => by
    have : p = 0 := by simpa using hp
    subst this
    rfl
  | s :: t, p, hp, h1, h2 => by
    have hz : rd_T37 (s :: t) ((0 : Nat) : Int) = s := rfl
    have hs : ∀ k : Nat, rd_T37 (s :: t) ((k + 1 : Nat) : Int) = rd_T37 t (k : Int) := fun k => by unfold rd_T37; rw [Int.toNat_natCast, Int.toNat_natCast]; rfl
    cases p with
    | zero =>
      have := h2 0 (Nat.le_refl _) (by simp)
      rw [hz] at this
      simp [cnt, List.takeWhile, show ¬ s.f1 ≤ x by omega]
    | succ p =>
      have h0 := h1 0 (by omega)
      rw [hz] at h0
      have ih := cnt_eq x t p (by simpa using hp) (fun k hk => by have := h1 (k + 1) (by omega); rwa [hs] at this) (fun k hk hk' => by have := h2 (k + 1) (by omega) (by simpa using hk'); rwa [hs] at this)
      unfold cnt at ih ⊢
      rw [List.takeWhile_cons_of_pos (by simpa using h0), List.length_cons, ih]
def epochs_find.f (l0 : List (S37)) (a1 : Int) : Option (Int) := if tbl l0 = true then some (cnt l0 a1 : Int) else none
set_option maxHeartbeats 8000000 in
set_option maxRecDepth 100000 in
theorem epochs_find.calls (A0 : Option Addr) (c0 : Nat) (l0 : List (S37)) (a1 : Int) (r : Int) (w : World) (hr0 : Kd.C k37 w A0 l0.length l0) (hc0 : l0.length ≤ c0) (h : epochs_find.f l0 a1 = some r) :
    Calls Try.prog 28 #[.slice A0 l0.length c0, .int .u64 a1] w fun e w' => e = .returned (.int .i64 r) ∧ Below w.heap.size w w' := by
  have HR0 := Aside0.mk hr0
  clear hr0
  unfold epochs_find.f at h
  by_cases ht : tbl l0 = true
  · rw [if_pos ht] at h
    have HT : Hid (tbl l0 = true) := ht
    have HF := Aside0.mk (Option.some.inj h)
    clear h ht
    have HI : Hid (∀ i j : Nat, i ≤ j → j < l0.length → (rd_T37 l0 i).f1 ≤ (rd_T37 l0 j).f1) := tbl_mono HT
    go_enter Try.func28, Try.ntmps28
    go_wp2_with fail
    refine (search_calls A0 c0 l0 a1 w HR0.out hc0 HI).mono ?_
    rintro e w1 ⟨p, b, ⟨rfl, hp, hL, hG⟩, hb1⟩
    have hcp := Aside0.mk (cnt_eq a1 l0 p hp hL hG)
    clear hL hG
    go_wp2_with fail
    go_ret
    refine ⟨?_, hb1⟩
    rw [← HF.out, hcp.out]
    rfl
  · rw [if_neg ht] at h
    cases h
def api_Start.f (l0 : List (S37)) : Option ((List (S37))) := if ([] : List (S37)).length + l0.length < 8796093022208 then (some (([] : List (S37)) ++ l0)) else (none)
theorem api_Start.calls (A0 : Option Addr) (c0 : Nat) (l0 : List (S37)) (r : List (S37)) (w : World) (hr0 : Kd.C k37 w A0 l0.length l0) (hc0 : l0.length ≤ c0) (h : api_Start.f l0 = some r) :
    Calls Try.prog 29 #[.slice A0 l0.length c0] w fun e w' => ∃ v0_ : Value, e = .returned (v0_) ∧ Kd.R k37 37 w' w.heap.size (fun _ => True) v0_ r ∧ Below w.heap.size w w' := by
  unfold api_Start.f at h
  by_cases hl : ([] : List S37).length + l0.length < 8796093022208
  · rw [if_pos hl, List.nil_append] at h
    obtain rfl := Option.some.inj h
    cases A0 with
    | some ad => exact clone_some ad c0 l0 w hr0 hc0 (by simpa using hl)
    | none =>
      have h0 : l0 = [] := by
        cases l0 with
        | nil => rfl
        | cons x xs =>
          obtain ⟨ad, ea, _⟩ := at_T37 hr0 0 (by omega) (by simp)
          cases ea
      subst h0
      exact clone_none c0 0 w
  · rw [if_neg hl] at h
    cases h
def epochs_Fork.f (l0 : List (S37)) (a1 : Int) (l2 : List (S37)) (a3 : Int) : Option (Int) := some (if tbl l0 = true then (if tbl l2 = true then forkE l0 l2 (mn a1 a3) else 0) else 0)
theorem epochs_Fork.calls (A0 : Option Addr) (c0 : Nat) (l0 : List (S37)) (a1 : Int) (A2 : Option Addr) (c2 : Nat) (l2 : List (S37)) (a3 : Int) (r : Int) (w : World) (hr0 : Kd.C k37 w A0 l0.length l0) (hc0 : l0.length ≤ c0) (hr2 : Kd.C k37 w A2 l2.length l2) (hc2 : l2.length ≤ c2) (h : epochs_Fork.f l0 a1 l2 a3 = some r) :
    Calls Try.prog 20 #[.slice A0 l0.length c0, .int .u64 a1, .slice A2 l2.length c2, .int .u64 a3] w fun e w' => e = .returned (.int .u64 r) ∧ Below w.heap.size w w' := by
  obtain rfl := Option.some.inj h
  by_cases h1 : tbl l0 = true
  · by_cases h2 : tbl l2 = true
    · rw [if_pos h1, if_pos h2]
      exact fork_good A0 c0 l0 a1 A2 c2 l2 a3 w hr0 hc0 hr2 hc2 h1 h2
    · rw [if_pos h1, if_neg h2]
      exact fork_bad2 A0 c0 l0 a1 A2 c2 l2 a3 w hr0 hc0 hr2 hc2 h1 (Bool.eq_false_iff.2 h2)
  · rw [if_neg h1]
    exact fork_bad1 A0 c0 l0 a1 A2 c2 l2 a3 w hr0 hc0 hr2 hc2 (Bool.eq_false_iff.2 h1)
end Go.Proofs.Ytdbebophchggfaa.Ep
