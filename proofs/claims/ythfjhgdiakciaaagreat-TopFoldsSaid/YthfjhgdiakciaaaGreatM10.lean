/- An order's way through its plan: Start, over, again, back, Check. Condition: the state is one that may be, and it is not cancelled. -/
import Derived.WalkMore
import Derived.ScopeJumps
import Derived.Test.YthfjhgdiakciaaaGreatM04
import Derived.Test.YthfjhgdiakciaaaGreatM09
namespace Go.Proofs.YthfjhgdiakciaaaGreat.Bl
open Go.RowKit
set_option linter.unusedVariables false
set_option linter.unusedSimpArgs false
/-- How far an order is. -/
structure Sg where
 ph : Nat
 st : Nat
 tr : Nat
 asked : Bool
 code : Nat
def leftF (b : Bool) : Int := match b with
 | true => 5
 | false => 0
def sgC (s : Sg) : List Value := [.int .i64 s.ph, .int .i64 s.st, .int .i64 s.tr, .bool s.asked, .int .i64 (leftF s.asked), .bool false, .int .i64 s.code]
def overS (c : Nat) : Sg := ⟨3, 0, 0, false, c⟩
def startS : Sg := ⟨1, 0, 0, false, 0⟩
/-- It goes back, from ahead of a step on. -/
def backS (p : List Stp) : Nat → Sg
 | 0 => overS 2
 | n + 1 => match p[n]? with
  | none => overS 2
  | some x => if x.back = true then ⟨2, n, 0, false, 0⟩ else backS p n
inductive SgOk (p : List Stp) : Sg → Prop
 | over (c : Nat) : 1 ≤ c → c ≤ 3 → SgOk p (overS c)
 | idle (ph st tr : Nat) (x : Stp) : p[st]? = some x → (ph = 1 ∨ ph = 2 ∧ x.back = true) → tr ≤ 1 → SgOk p ⟨ph, st, tr, false, 0⟩
 | wait (ph st tr : Nat) (x : Stp) : p[st]? = some x → (ph = 1 ∨ ph = 2 ∧ x.back = true) → 1 ≤ tr → tr ≤ 2 → SgOk p ⟨ph, st, tr, true, 0⟩
theorem size116 : (Tryz.prog.info? 116).map (·.size) = some 7 := by kernel_rfl
theorem start_a (W : World) : Calls Tryz.prog 41 #[] W fun e W' => e = .returned (.agg (sgC startS).toArray) ∧ Below W.heap.size W W' := by
 go_enter Tryz.func41, Tryz.ntmps41
 go_wp2_with fail
 refine bodyPost_ret (results_cell_row rfl _ _ W.heap.size 116 (sgC startS).toArray (0, 0) _ rfl ?_ Tryz.underlying116 rfl size116) rfl ?_
 ·exact blk_new W _
 ·exact ⟨rfl, (Below.refl _ _).alloc (Nat.le_refl _) _⟩
theorem over_a (c : Nat) (W : World) : Calls Tryz.prog 114 #[.int .i64 c] W fun e W' => e = .returned (.agg (sgC (overS c)).toArray) ∧ Below W.heap.size W W' := by
 go_enter Tryz.func114, Tryz.ntmps114
 go_wp2_with fail
 refine bodyPost_ret (results_cell_row rfl _ _ W.heap.size 116 (sgC (overS c)).toArray (0, 0) _ rfl ?_ Tryz.underlying116 rfl size116) rfl ?_
 ·exact blk_new W _
 ·exact ⟨rfl, (Below.refl _ _).alloc (Nat.le_refl _) _⟩
theorem again_a (ph st tr : Nat) (W : World) : Calls Tryz.prog 118 #[.agg (sgC ⟨ph, st, tr, true, 0⟩).toArray] W fun e W' => e = .returned (.agg (sgC ⟨ph, st, tr, false, 0⟩).toArray) ∧ Below W.heap.size W W' := by
 unfold sgC
 go_enter Tryz.func118, Tryz.ntmps118
 go_wp2_with fail
 refine bodyPost_ret (results_cell_row rfl _ _ (W.heap.size + 1) 116 (sgC ⟨ph, st, tr, false, 0⟩).toArray (0, 0) _ rfl ?_ Tryz.underlying116 rfl size116) rfl ?_
 ·exact heap_alloc2_new W _ _
 ·exact ⟨rfl, ((Below.refl _ _).alloc (Nat.le_refl _) _).alloc (by simp) _⟩
theorem sgC_one (s : Sg) : ∀ v ∈ sgC s, v.oneCell' = true := fun v hv => by
 simp only [sgC, List.mem_cons, List.not_mem_nil, or_false] at hv
 rcases hv with rfl | rfl | rfl | rfl | rfl | rfl | rfl <;> rfl
/-- A state is stored into a block of its own. -/
theorem wpList_store116 {ops : Array Oper} {rest : List Oper} {o : Oper} {a : Act} {w : World} {Q : Exit → Act → World → Prop} (hgd : o.guard = none) (x y : Operand) (ho : o.op = .store 116 x y) (b : Nat) (s : Sg) (z : Array Value)
  (hx : a.eval x = .pointer (some ⟨b, 0, none⟩)) (hy : a.eval y = .agg (sgC s).toArray) (h0 : w.heap[b]? = some (.cells z 116 (0, 0))) (hz : z.size = 7)
  (h : ∀ w1 : World, w1.heap[b]? = some (.cells (sgC s).toArray 116 (0, 0)) → (∀ B, B ≤ b → Below B w w1) → w1.heap.size = w.heap.size → wpList Tryz.prog ops Q rest (a.put o.dst undef) w1) : wpList Tryz.prog ops Q (o :: rest) a w := by
 refine wpList_store_mid hgd 116 x y ho b 0 (sgC s).toArray hx hy (there_block h0 0 _ (by rw [hz]; exact Nat.le_refl _)) size116 (all_oneCell_toArray (sgC_one s)) (h _ (row_over h0 (by rw [hz]; rfl)) (fun B hB => setCells_below _ hB) (setCells_size _ _ _ _))
theorem StpAt.c5 {W : World} {own : Nat → Prop} {g o : Nat} {s : Stp} {x : List Value} (h : StpAt W own s x) (hr : W.rangeAt g o x) :
  W.cell? ⟨g, o + 3, none⟩ = some (.int .i64 2) ∧ W.cell? ⟨g, o + 4, none⟩ = some (.int .i64 5) ∧ W.cell? ⟨g, o + 5, none⟩ = some (.bool s.back) := by
 obtain ⟨a, k, rfl, _⟩ := h
 exact ⟨hr 3 _ rfl, hr 4 _ rfl, hr 5 _ rfl⟩
set_option maxHeartbeats 1000000 in
theorem back_a {W : World} {own : Nat → Prop} {v : Value} {p : List Stp} (h : PlanAt W own v p) (hp : PlanOk p) (n : Nat) (hn : n ≤ p.length) (k : Int) (hk : k = (n : Int) - 1) :
  Calls Tryz.prog 117 #[v, .int .i64 k] W fun e W' => e = .returned (.agg (sgC (backS p n)).toArray) ∧ Below W.heap.size W W' := by
 obtain ⟨hl1, hl2, _⟩ := hp
 obtain ⟨g, c, _, rfl, hgl, _⟩ := h.at (List.getElem?_eq_getElem (show 0 < p.length by omega))
 have H := As.mk h
 have HK := As.mk hk
 clear h hk
 go_enter Tryz.func117, Tryz.ntmps117
 go_wp2_with fail
 go_step3
 go_wp2_with fail
 go_step3
 go_wp2_with fail
 go_loopg [5] n (fun gk v5 w' => ∃ (m : Nat) (i : Int), v5 = .int .i64 i ∧ As (i = (m : Int) - 1) ∧ As (gk = m) ∧ As (m ≤ n) ∧ As (backS p n = backS p m) ∧ As (w'.heap[W.heap.size]? = some (.cells (sgC ⟨0, 0, 0, false, 0⟩).toArray 116 (0, 0))) ∧ As (Below W.heap.size W w'))
 case atStart => exact ⟨n, k, rfl, HK, ⟨rfl⟩, ⟨Nat.le_refl _⟩, ⟨rfl⟩, ⟨blk_new W _⟩, ⟨(Below.refl _ _).alloc (Nat.le_refl _) _⟩⟩
 case round =>
  obtain ⟨m, i, rfl, HI, HM, HN, HBK, H0, HB⟩ := hrel
  have hs := HB.out.size
  have hl0 := blk_lt H0.out
  cases m with
  | zero =>
   obtain rfl : i = -1 := by have := HI.out; omega
   go_wp2_with fail
   refine (over_a 2 _).mono ?_
   rintro e w1 ⟨rfl, q1⟩
   have H1 := As.mk ((q1.block W.heap.size hl0).trans H0.out)
   go_wp2_with (refine wpList_store116 rfl (.tmp 4) (.tmp 19) rfl W.heap.size (overS 2) _ rfl rfl H1.out rfl ?_; intro w2 r1 r2 r3)
   simp only [Exit.noGoto_ret, Act.put]
   refine bodyPost_ret (results_cell_row rfl _ _ W.heap.size 116 (sgC (overS 2)).toArray (0, 0) _ rfl r1 Tryz.underlying116 rfl size116) rfl ⟨?_, (HB.out.trans (q1.mono hs)).trans (r2 _ (Nat.le_refl _))⟩
   rw [HBK.out]
   rfl
  | succ m =>
   have hm : m < p.length := by have := HN.out; omega
   obtain rfl : i = (m : Int) := by have := HI.out; omega
   obtain ⟨g', c', x, hv, _, _, hx, hr⟩ := H.out.at (List.getElem?_eq_getElem hm)
   injection hv with e1 _ e2
   injection e1 with e1
   injection e1 with e1
   subst e1 e2
   have hr1 := range_heap hr (HB.out.block g hgl)
   have HE : As (backS p (m + 1) = if p[m].back = true then ⟨2, m, 0, false, 0⟩ else backS p m) := ⟨by
    show (match p[m]? with | none => _ | some x => _) = _
    rw [List.getElem?_eq_getElem hm]⟩
   obtain ⟨_, _, h5⟩ := (hx.keep (W' := wr) (fun k _ hlk => HB.out.block k hlk) hs).c5 hr1
   cases hb : p[m].back with
   | true =>
    rw [hb] at h5 HE
    rw [if_pos rfl] at HE
    clear hx hr hr1 hb
    have hbw := HB.out.block
    go_wp2_with (refine wpList_store116 rfl (.tmp 4) (.tmp 18) rfl W.heap.size ⟨2, m, 0, false, 0⟩ _ rfl rfl H0.out rfl ?_; intro w1 q1 q2 q3)
    refine bodyPost_ret (results_cell_row rfl _ _ W.heap.size 116 (sgC ⟨2, m, 0, false, 0⟩).toArray (0, 0) _ rfl q1 Tryz.underlying116 rfl size116) rfl ⟨?_, HB.out.trans (q2 _ (Nat.le_refl _))⟩
    rw [HBK.out, HE.out]
   | false =>
    rw [hb] at h5 HE
    rw [if_neg (by decide)] at HE
    clear hx hr hr1 hb
    go_wp2_with fail
    go_roundg m
    case measure => have := HM.out; omega
    case rel => exact ⟨m, _, rfl, ⟨by trivial⟩, ⟨rfl⟩, ⟨by have := HN.out; omega⟩, ⟨HBK.out.trans HE.out⟩, H0, HB⟩
end Go.Proofs.YthfjhgdiakciaaaGreat.Bl
/- May an order's state be (saga.Check)? Condition: it may. -/
namespace Go.Proofs.YthfjhgdiakciaaaGreat.Bl
open Go.RowKit
set_option linter.unusedVariables false
set_option linter.unusedSimpArgs false
theorem cells7 {W : World} {b t : Nat} {fr : Nat × Nat} {v0 v1 v2 v3 v4 v5 v6 : Value} (h : W.heap[b]? = some (.cells #[v0, v1, v2, v3, v4, v5, v6] t fr)) :
  W.cell? ⟨b, 0, none⟩ = some v0 ∧ W.cell? ⟨b, 1, none⟩ = some v1 ∧ W.cell? ⟨b, 2, none⟩ = some v2 ∧ W.cell? ⟨b, 3, none⟩ = some v3 ∧ W.cell? ⟨b, 4, none⟩ = some v4 ∧ W.cell? ⟨b, 5, none⟩ = some v5 ∧ W.cell? ⟨b, 6, none⟩ = some v6 :=
 ⟨(blk_cell h 0).trans rfl, (blk_cell h 1).trans rfl, (blk_cell h 2).trans rfl, (blk_cell h 3).trans rfl, (blk_cell h 4).trans rfl, (blk_cell h 5).trans rfl, (blk_cell h 6).trans rfl⟩
set_option maxHeartbeats 2000000 in
set_option maxRecDepth 100000 in
theorem scheck_over {W : World} {own : Nat → Prop} {v : Value} {p : List Stp} (h : PlanAt W own v p) (hp : PlanOk p) (c : Nat) (h1 : 1 ≤ c) (h3 : c ≤ 3) :
  Calls Tryz.prog 77 #[v, .agg (sgC (overS c)).toArray] W fun e W' => e = .returned (.int .i64 0) ∧ Below W.heap.size W W' := by
 have HP := As.mk (pcheck_a (h.keep (W' := W.alloc (.cells (sgC (overS c)).toArray 116 (0, 0))) (fun k _ hk => Below.heap_alloc _ _ _ hk) (by simp)) hp)
 have HOV : As (∀ W, Calls Tryz.prog 114 #[.int .i64 c] W fun e W' => e = .returned (.agg #[.int .i64 3, .int .i64 0, .int .i64 0, .bool false, .int .i64 0, .bool false, .int .i64 c]) ∧ Below W.heap.size W W') := ⟨over_a c⟩
 have hc1 : decide ((c : Int) < 1) = false := by simp; omega
 have hc3 : decide ((3 : Int) < (c : Int)) = false := by simp; omega
 clear h hp h1 h3
 unfold sgC overS
 go_enter Tryz.func77, Tryz.ntmps77
 go_wp2_with fail
 refine HP.out.mono ?_
 rintro e w1 ⟨rfl, q1⟩
 have hbk : As (w1.heap[W.heap.size]? = some (.cells #[.int .i64 3, .int .i64 0, .int .i64 0, .bool false, .int .i64 0, .bool false, .int .i64 c] 116 (0, 0))) := As.mk ((q1.block W.heap.size (by simp)).trans (heap_alloc_new W _))
 have B1 : As (Below W.heap.size W w1) := ⟨((Below.refl _ _).alloc (Nat.le_refl _) _).trans (q1.mono (by simp))⟩
 obtain ⟨k0, k1, k2, k3, k4, k5, k6⟩ := cells7 hbk.out
 have hs1 := B1.out.size
 have hlt := blk_lt hbk.out
 clear q1
 generalize hb : W.heap.size = b at *
 have HBe := As.mk hb
 clear hb
 go_upto_region 5 with fail
 refine wp_region_plan_kept (fun w' => w'.heap[b]? = some (.cells #[.int .i64 3, .int .i64 0, .int .i64 0, .bool false, .int .i64 0, .bool false, .int .i64 c] 116 (0, 0))) [(1,0),(0,1),(1,2),(1,3),(1,4),(0,5),(1,6),(1,7),(1,8),(0,9),(1,10),(0,11),(2,12),(2,13),(2,14)] (by kernel_rfl) (by kernel_rfl) (by kernel_rfl) (by kernel_rfl) (fun _ _ _ _ _ h => h) hbk.out ?_
 simp only [tagged, List.filterMap_cons, List.filterMap_nil, List.getElem?_toArray, List.getElem?_cons_succ, List.getElem?_cons_zero, Option.map_some]
 iterate 1 (refine wpKept_sure (fun K hK => ?_); go_simp; refine hK _ ?_; clear hK K)
 refine wpKept_take (fun K hK => ?_)
 rw [if_pos (by rfl)]
 apply Exists.intro
 refine ⟨fun w' hw' => ?_, hK _ ?_⟩
 ·obtain ⟨j0, j1, j2, j3, j4, j5, j6⟩ := cells7 hw'
  go_simp
  rfl
 clear hK K
 iterate 3 (refine wpKept_sure (fun K hK => ?_); go_simp; refine hK _ ?_; clear hK K)
 refine wpKept_take (fun K hK => ?_)
 rw [if_pos (by rfl)]
 apply Exists.intro
 refine ⟨fun w' hw' => ?_, hK _ ?_⟩
 ·obtain ⟨j0, j1, j2, j3, j4, j5, j6⟩ := cells7 hw'
  go_simp
  rfl
 clear hK K
 iterate 3 (refine wpKept_sure (fun K hK => ?_); go_simp; refine hK _ ?_; clear hK K)
 refine wpKept_take (fun K hK => ?_)
 rw [if_pos (by rfl)]
 refine ⟨.agg #[.int .i64 3, .int .i64 0, .int .i64 0, .bool false, .int .i64 0, .bool false, .int .i64 c], fun w' hw' => exec_load_mid _ _ _ 116 (.tmp 3) rfl b 0 rfl (sgC (overS c)) _ (fun j v hv => by rw [Nat.zero_add, blk_cell hw', List.getElem?_toArray]; exact hv) Tryz.underlying116 rfl size116, hK _ ?_⟩
 clear hK K
 iterate 1 (refine wpKept_sure (fun K hK => ?_); go_simp; refine hK _ ?_; clear hK K)
 refine wpKept_take (fun K hK => ?_)
 rw [if_pos (by rfl)]
 apply Exists.intro
 refine ⟨fun w' hw' => ?_, hK _ ?_⟩
 ·obtain ⟨j0, j1, j2, j3, j4, j5, j6⟩ := cells7 hw'
  go_simp
  rfl
 clear hK K
 refine wpKept_next (fun K hK => ?_)
 go_simp
 refine (HOV.out w1.drew).mono ?_
 rintro e w2 ⟨rfl, q2⟩
 have hbk2 := As.mk ((q2.block b hlt).trans hbk.out)
 have B2 := As.mk (B1.out.drew.trans (q2.mono hs1))
 refine hK _ _ hbk2.out ?_
 clear hK K q2
 refine wpKept_next (fun K hK => ?_)
 go_simp
 refine hK _ _ hbk2.out ?_
 clear hK K
 refine wpKept_next (fun K hK => ?_)
 go_simp
 refine hK _ _ hbk2.out ?_
 clear hK K
 refine wpKept_nil ?_
 go_wp2_with fail
 go_ret
 refine ⟨rfl, ?_⟩
 rw [HBe.out]
 exact B2.out
set_option maxHeartbeats 1000000 in
set_option maxRecDepth 100000 in
theorem sc1f {W : World} {g n c st tr nl k : Nat} {xw xn : Int} {xb : Bool} {a : Option Addr} (hgl : g < W.heap.size) (hst : st < n) (hn : n ≤ 16) (ht : tr ≤ 1) (HR : As (W.rangeAt g (st * 6) [.int .i64 xw, .int .i64 xn, .slice a nl k, .int .i64 2, .int .i64 5, .bool xb]))
  (HP : As (Calls Tryz.prog 30 #[.slice (some ⟨g, 0, none⟩) n c] (W.alloc (.cells #[.int .i64 1, .int .i64 st, .int .i64 tr, .bool false, .int .i64 0, .bool false, .int .i64 0] 116 (0, 0))) fun e W1 => e = .returned (.int .i64 0) ∧ Below (W.alloc (.cells #[.int .i64 1, .int .i64 st, .int .i64 tr, .bool false, .int .i64 0, .bool false, .int .i64 0] 116 (0, 0))).heap.size (W.alloc (.cells #[.int .i64 1, .int .i64 st, .int .i64 tr, .bool false, .int .i64 0, .bool false, .int .i64 0] 116 (0, 0))) W1)) :
  Calls Tryz.prog 77 #[.slice (some ⟨g, 0, none⟩) n c, .agg #[.int .i64 1, .int .i64 st, .int .i64 tr, .bool false, .int .i64 0, .bool false, .int .i64 0]] W fun e W' => e = .returned (.int .i64 0) ∧ Below W.heap.size W W' := by
 have hd1 : decide ((st : Int) < 0) = false := by simp
 have hd2 : decide (n ≤ st) = false := by simp; omega
 have hd3 : decide ((tr : Int) < 2) = true := by simp; omega
 go_enter Tryz.func77, Tryz.ntmps77
 go_wp2_with fail
 refine HP.out.mono ?_
 rintro e w1 ⟨rfl, q1⟩
 have hbk := (q1.block W.heap.size (by simp)).trans (heap_alloc_new W _)
 have B1 : As (Below W.heap.size W w1) := ⟨((Below.refl _ _).alloc (Nat.le_refl _) _).trans (q1.mono (by simp))⟩
 have hr1 := As.mk (range_heap HR.out (B1.out.block g hgl))
 obtain ⟨k0, k1, k2, k3, k4, k5, k6⟩ := cells7 hbk
 have hs1 := B1.out.size
 have hlt := blk_lt hbk
 clear q1 hbk HP HR
 generalize hb : W.heap.size = b at *
 have HBe := As.mk hb
 clear hb
 go_upto_region 10 with fail
 go_upto_region 11 with (refine wpList_load_mid rfl 112 (.tmp 59) rfl g (st * 6) rfl _ _ hr1.out Tryz.underlying112 rfl size112 ?_)
 go_wp2_with fail
 all_goals
  go_ret
  refine ⟨rfl, ?_⟩
  rw [HBe.out]
  exact B1.out.alloc hs1 _
set_option maxHeartbeats 1000000 in
set_option maxRecDepth 100000 in
theorem sc1t {W : World} {g n c st tr nl k : Nat} {xw xn : Int} {xb : Bool} {a : Option Addr} (hgl : g < W.heap.size) (hst : st < n) (hn : n ≤ 16) (ht1 : 1 ≤ tr) (ht2 : tr ≤ 2) (HR : As (W.rangeAt g (st * 6) [.int .i64 xw, .int .i64 xn, .slice a nl k, .int .i64 2, .int .i64 5, .bool xb]))
  (HP : As (Calls Tryz.prog 30 #[.slice (some ⟨g, 0, none⟩) n c] (W.alloc (.cells #[.int .i64 1, .int .i64 st, .int .i64 tr, .bool true, .int .i64 5, .bool false, .int .i64 0] 116 (0, 0))) fun e W1 => e = .returned (.int .i64 0) ∧ Below (W.alloc (.cells #[.int .i64 1, .int .i64 st, .int .i64 tr, .bool true, .int .i64 5, .bool false, .int .i64 0] 116 (0, 0))).heap.size (W.alloc (.cells #[.int .i64 1, .int .i64 st, .int .i64 tr, .bool true, .int .i64 5, .bool false, .int .i64 0] 116 (0, 0))) W1)) :
  Calls Tryz.prog 77 #[.slice (some ⟨g, 0, none⟩) n c, .agg #[.int .i64 1, .int .i64 st, .int .i64 tr, .bool true, .int .i64 5, .bool false, .int .i64 0]] W fun e W' => e = .returned (.int .i64 0) ∧ Below W.heap.size W W' := by
 have hd1 : decide ((st : Int) < 0) = false := by simp
 have hd2 : decide (n ≤ st) = false := by simp; omega
 have hd3 : decide ((1 : Int) ≤ (tr : Int)) = true := by simp; omega
 have hd4 : decide ((tr : Int) ≤ 2) = true := by simp; omega
 go_enter Tryz.func77, Tryz.ntmps77
 go_wp2_with fail
 refine HP.out.mono ?_
 rintro e w1 ⟨rfl, q1⟩
 have hbk := (q1.block W.heap.size (by simp)).trans (heap_alloc_new W _)
 have B1 : As (Below W.heap.size W w1) := ⟨((Below.refl _ _).alloc (Nat.le_refl _) _).trans (q1.mono (by simp))⟩
 have hr1 := As.mk (range_heap HR.out (B1.out.block g hgl))
 obtain ⟨k0, k1, k2, k3, k4, k5, k6⟩ := cells7 hbk
 have hs1 := B1.out.size
 have hlt := blk_lt hbk
 clear q1 hbk HP HR
 generalize hb : W.heap.size = b at *
 have HBe := As.mk hb
 clear hb
 go_upto_region 10 with fail
 go_upto_region 11 with (refine wpList_load_mid rfl 112 (.tmp 59) rfl g (st * 6) rfl _ _ hr1.out Tryz.underlying112 rfl size112 ?_)
 go_wp2_with fail
 all_goals
  go_ret
  refine ⟨rfl, ?_⟩
  rw [HBe.out]
  exact B1.out.alloc hs1 _
set_option maxHeartbeats 1000000 in
set_option maxRecDepth 100000 in
theorem sc2f {W : World} {g n c st tr nl k : Nat} {xw xn : Int} {xb : Bool} {a : Option Addr} (hgl : g < W.heap.size) (hst : st < n) (hn : n ≤ 16) (ht : tr ≤ 1) (HR : As (W.rangeAt g (st * 6) [.int .i64 xw, .int .i64 xn, .slice a nl k, .int .i64 2, .int .i64 5, .bool true]))
  (HP : As (Calls Tryz.prog 30 #[.slice (some ⟨g, 0, none⟩) n c] (W.alloc (.cells #[.int .i64 2, .int .i64 st, .int .i64 tr, .bool false, .int .i64 0, .bool false, .int .i64 0] 116 (0, 0))) fun e W1 => e = .returned (.int .i64 0) ∧ Below (W.alloc (.cells #[.int .i64 2, .int .i64 st, .int .i64 tr, .bool false, .int .i64 0, .bool false, .int .i64 0] 116 (0, 0))).heap.size (W.alloc (.cells #[.int .i64 2, .int .i64 st, .int .i64 tr, .bool false, .int .i64 0, .bool false, .int .i64 0] 116 (0, 0))) W1)) :
  Calls Tryz.prog 77 #[.slice (some ⟨g, 0, none⟩) n c, .agg #[.int .i64 2, .int .i64 st, .int .i64 tr, .bool false, .int .i64 0, .bool false, .int .i64 0]] W fun e W' => e = .returned (.int .i64 0) ∧ Below W.heap.size W W' := by
 have hd1 : decide ((st : Int) < 0) = false := by simp
 have hd2 : decide (n ≤ st) = false := by simp; omega
 have hd3 : decide ((tr : Int) < 2) = true := by simp; omega
 go_enter Tryz.func77, Tryz.ntmps77
 go_wp2_with fail
 refine HP.out.mono ?_
 rintro e w1 ⟨rfl, q1⟩
 have hbk := (q1.block W.heap.size (by simp)).trans (heap_alloc_new W _)
 have B1 : As (Below W.heap.size W w1) := ⟨((Below.refl _ _).alloc (Nat.le_refl _) _).trans (q1.mono (by simp))⟩
 have hr1 := As.mk (range_heap HR.out (B1.out.block g hgl))
 obtain ⟨k0, k1, k2, k3, k4, k5, k6⟩ := cells7 hbk
 have hs1 := B1.out.size
 have hlt := blk_lt hbk
 clear q1 hbk HP HR
 generalize hb : W.heap.size = b at *
 have HBe := As.mk hb
 clear hb
 go_upto_region 10 with fail
 go_upto_region 11 with (refine wpList_load_mid rfl 112 (.tmp 59) rfl g (st * 6) rfl _ _ hr1.out Tryz.underlying112 rfl size112 ?_)
 go_wp2_with fail
 all_goals
  go_ret
  refine ⟨rfl, ?_⟩
  rw [HBe.out]
  exact B1.out.alloc hs1 _
set_option maxHeartbeats 1000000 in
set_option maxRecDepth 100000 in
theorem sc2t {W : World} {g n c st tr nl k : Nat} {xw xn : Int} {xb : Bool} {a : Option Addr} (hgl : g < W.heap.size) (hst : st < n) (hn : n ≤ 16) (ht1 : 1 ≤ tr) (ht2 : tr ≤ 2) (HR : As (W.rangeAt g (st * 6) [.int .i64 xw, .int .i64 xn, .slice a nl k, .int .i64 2, .int .i64 5, .bool true]))
  (HP : As (Calls Tryz.prog 30 #[.slice (some ⟨g, 0, none⟩) n c] (W.alloc (.cells #[.int .i64 2, .int .i64 st, .int .i64 tr, .bool true, .int .i64 5, .bool false, .int .i64 0] 116 (0, 0))) fun e W1 => e = .returned (.int .i64 0) ∧ Below (W.alloc (.cells #[.int .i64 2, .int .i64 st, .int .i64 tr, .bool true, .int .i64 5, .bool false, .int .i64 0] 116 (0, 0))).heap.size (W.alloc (.cells #[.int .i64 2, .int .i64 st, .int .i64 tr, .bool true, .int .i64 5, .bool false, .int .i64 0] 116 (0, 0))) W1)) :
  Calls Tryz.prog 77 #[.slice (some ⟨g, 0, none⟩) n c, .agg #[.int .i64 2, .int .i64 st, .int .i64 tr, .bool true, .int .i64 5, .bool false, .int .i64 0]] W fun e W' => e = .returned (.int .i64 0) ∧ Below W.heap.size W W' := by
 have hd1 : decide ((st : Int) < 0) = false := by simp
 have hd2 : decide (n ≤ st) = false := by simp; omega
 have hd3 : decide ((1 : Int) ≤ (tr : Int)) = true := by simp; omega
 have hd4 : decide ((tr : Int) ≤ 2) = true := by simp; omega
 go_enter Tryz.func77, Tryz.ntmps77
 go_wp2_with fail
 refine HP.out.mono ?_
 rintro e w1 ⟨rfl, q1⟩
 have hbk := (q1.block W.heap.size (by simp)).trans (heap_alloc_new W _)
 have B1 : As (Below W.heap.size W w1) := ⟨((Below.refl _ _).alloc (Nat.le_refl _) _).trans (q1.mono (by simp))⟩
 have hr1 := As.mk (range_heap HR.out (B1.out.block g hgl))
 obtain ⟨k0, k1, k2, k3, k4, k5, k6⟩ := cells7 hbk
 have hs1 := B1.out.size
 have hlt := blk_lt hbk
 clear q1 hbk HP HR
 generalize hb : W.heap.size = b at *
 have HBe := As.mk hb
 clear hb
 go_upto_region 10 with fail
 go_upto_region 11 with (refine wpList_load_mid rfl 112 (.tmp 59) rfl g (st * 6) rfl _ _ hr1.out Tryz.underlying112 rfl size112 ?_)
 go_wp2_with fail
 all_goals
  go_ret
  refine ⟨rfl, ?_⟩
  rw [HBe.out]
  exact B1.out.alloc hs1 _
theorem scheck_live {W : World} {own : Nat → Prop} {v : Value} {p : List Stp} (h : PlanAt W own v p) (hp : PlanOk p) (ph st tr : Nat) (asked : Bool) (x : Stp) (hx : p[st]? = some x) (hph : ph = 1 ∨ ph = 2 ∧ x.back = true) (ht : (asked = false ∧ tr ≤ 1) ∨ (asked = true ∧ 1 ≤ tr ∧ tr ≤ 2)) :
  Calls Tryz.prog 77 #[v, .agg (sgC ⟨ph, st, tr, asked, 0⟩).toArray] W fun e W' => e = .returned (.int .i64 0) ∧ Below W.heap.size W W' := by
 have HP := As.mk (pcheck_a (h.keep (W' := W.alloc (.cells (sgC ⟨ph, st, tr, asked, 0⟩).toArray 116 (0, 0))) (fun k _ hk => Below.heap_alloc _ _ _ hk) (by simp)) hp)
 obtain ⟨g, c, y, rfl, hgl, _, hy, hr⟩ := h.at hx
 have hst : st < p.length := (List.getElem?_eq_some_iff.1 hx).1
 obtain ⟨a, k, rfl, _⟩ := hy
 obtain ⟨hl1, hl2, _⟩ := hp
 unfold stC at hr
 rcases hph with rfl | ⟨rfl, hb⟩ <;> rcases ht with ⟨rfl, ht⟩ | ⟨rfl, ht1, ht2⟩
 ·exact sc1f hgl hst hl2 ht ⟨hr⟩ HP
 ·exact sc1t hgl hst hl2 ht1 ht2 ⟨hr⟩ HP
 ·rw [hb] at hr; exact sc2f (xb := true) hgl hst hl2 ht ⟨hr⟩ HP
 ·rw [hb] at hr; exact sc2t (xb := true) hgl hst hl2 ht1 ht2 ⟨hr⟩ HP
end Go.Proofs.YthfjhgdiakciaaaGreat.Bl
