/- The fields of a result (drayageref04.fields). -/
import Derived.Test.YthfjhgdiakciaaaGreatM27
namespace Go.Proofs.YthfjhgdiakciaaaGreat.Bl
open Go.RowKit
set_option linter.unusedVariables false
set_option linter.unusedSimpArgs false
set_option maxHeartbeats 4000000 in
set_option maxRecDepth 100000 in
theorem fields4_a (l o s t c : Int) (u : Bool) (ak ad : Option Addr) (nk ck nd cd : Nat) (hl : 1 ≤ l ∧ l < 1000000) (ho : 1 ≤ o ∧ o < 1000000) (hs : 0 ≤ s ∧ s < 16) (ht : 1 ≤ t ∧ t ≤ 255) (hc : 1 ≤ c ∧ c ≤ 3) (W : World) :
  Calls Tryz.prog 125 #[.agg #[.int .i64 4, .int .u64 l, .int .u32 1, .int .u32 o, .int .i64 s, .bool u, .int .i64 t, .int .i64 c, .int .u64 0, .slice ak nk ck, .slice ad nd cd]] W fun e W' => FieldsOk W W' e := by
 have e1 : decide (1 ≤ o) = true := by simp; omega
 have e2 : decide (0 ≤ s) = true := by simp; omega
 have e3 : decide (s ≤ 15) = true := by simp; omega
 have e4 : decide (1 ≤ t) = true := by simp; omega
 have e5 : decide (t ≤ 255) = true := by simp; omega
 have e6 : decide (1 ≤ c) = true := by simp; omega
 have e7 : decide (c ≤ 3) = true := by simp; omega
 clear hl ho hs ht hc
 have HB : ∀ a b c d, Below W.heap.size W ((((W.alloc a).alloc b).alloc c).alloc d) := fun a b c d => ((((Below.refl _ W).alloc (Nat.le_refl _) a).alloc (by simp) b).alloc (by simp; omega) c).alloc (by simp; omega) d
 have HBa := As.mk HB
 clear HB
 have HX : ∀ cs b c d, ((((W.alloc (.cells cs 41)).alloc b).alloc c).alloc d).heap[W.heap.size]? = some (.cells cs 41 (0, 0)) := fun cs b c d => blk_old (blk_old (blk_old (blk_new W _) b) c) d
 have HXa := As.mk HX
 clear HX
 cases u
 all_goals
  go_enter Tryz.func125, Tryz.ntmps125
  go_wp2_with ((at_builtin; refine wpList_append_fields rfl _ _ rfl (W.heap.size + 1) (W.heap.size + 1) 3 3 _ rfl (own_two (W.alloc _) _ _ _ (by simp) (by simp) rfl _ _) (W.heap.size + 1 + 1 + 1) 4 4 _ rfl (blk_at _ _ _ (by simp)) rfl ?_ (by omega) (by omega) (by omega) (by simp <;> omega) ?_))
  ·intro v hv
   simp only [List.mem_cons, List.not_mem_nil, or_false] at hv
   rcases hv with h | h | h | h | h | h | h | h | h | h | h | h <;> (rw [h]; rfl)
  intro g cap w1 zs h1 h2
  have B1 := As.mk ((HBa.out _ _ _ _).trans (h2.mono (by omega)))
  have hbk := (h2.block W.heap.size (by omega)).trans (HXa.out _ _ _ _)
  obtain ⟨k0, k1, k2, k3, k4, k5, k6, k7, k8, k9, k10⟩ := cells11 hbk
  have HO : As (∀ D, (w1.alloc D).ownsRow (W.heap.size + 1) 223 3 (.slice (some ⟨g, 0, none⟩) 7 cap) 7 zs) := ⟨fun D => own_keep h1 (fun g hg hl => Below.heap_alloc _ _ _ hl)⟩
  have hlt := blk_lt hbk
  have HK := As.mk hbk
  clear h1 h2 hbk
  generalize hb : W.heap.size = b at *
  have HBe := As.mk hb
  clear hb HBa HXa
  go_wp2_with ((at_builtin; refine wpList_append_fields rfl _ _ rfl (b + 1) g 7 cap zs rfl (HO.out _) w1.heap.size 1 1 _ rfl (blk_at _ _ _ rfl) rfl ?_ (by omega) (by omega) (by omega) (by simp <;> omega) ?_))
  ·intro v hv
   simp only [List.mem_cons, List.not_mem_nil, or_false] at hv
   rcases hv with h | h | h <;> (rw [h]; rfl)
  intro g2 cap2 w2 zs2 h1 h2
  have B2 := As.mk ((B1.out.alloc (by omega) _).trans (h2.mono (by omega)))
  have hbk := (h2.block b (by omega)).trans (blk_old HK.out _)
  clear k0 k1 k2 k3 k4 k5 k6 k7 k8 k9 k10
  obtain ⟨k0, k1, k2, k3, k4, k5, k6, k7, k8, k9, k10⟩ := cells11 hbk
  clear h1 h2 hbk
  go_wp2_with fail
  go_ret2
  exact ⟨_, rfl, by first | exact B2.out | (rw [HBe.out]; exact B2.out)⟩
end Go.Proofs.YthfjhgdiakciaaaGreat.Bl
/- The fields of an order (drayageref04.fields). -/
namespace Go.Proofs.YthfjhgdiakciaaaGreat.Bl
open Go.RowKit
set_option linter.unusedVariables false
set_option linter.unusedSimpArgs false
set_option maxHeartbeats 4000000 in
set_option maxRecDepth 100000 in
theorem fields2_a (l o : Int) (ak ad : Option Addr) (ck cd : Nat) (hl : 1 ≤ l ∧ l < 1000000) (ho : 1 ≤ o ∧ o < 1000000) (W : World) :
  Calls Tryz.prog 125 #[.agg #[.int .i64 2, .int .u64 l, .int .u32 1, .int .u32 o, .int .i64 0, .bool false, .int .i64 0, .int .i64 0, .int .u64 0, .slice ak 1 ck, .slice ad 1 cd]] W fun e W' => FieldsOk W W' e := by
 have e1 : decide (1 ≤ o) = true := by simp; omega
 clear hl ho
 have HB : ∀ a b c d, Below W.heap.size W ((((W.alloc a).alloc b).alloc c).alloc d) := fun a b c d => ((((Below.refl _ W).alloc (Nat.le_refl _) a).alloc (by simp) b).alloc (by simp; omega) c).alloc (by simp; omega) d
 have HBa := As.mk HB
 clear HB
 have HX : ∀ cs b c d, ((((W.alloc (.cells cs 41)).alloc b).alloc c).alloc d).heap[W.heap.size]? = some (.cells cs 41 (0, 0)) := fun cs b c d => blk_old (blk_old (blk_old (blk_new W _) b) c) d
 have HXa := As.mk HX
 clear HX
 go_enter Tryz.func125, Tryz.ntmps125
 go_upto_region 11 with ((at_builtin; refine wpList_append_fields rfl _ _ rfl (W.heap.size + 1) (W.heap.size + 1) 3 3 _ rfl (own_two (W.alloc _) _ _ _ (by simp) (by simp) rfl _ _) (W.heap.size + 1 + 1 + 1) 3 3 _ rfl (blk_at _ _ _ (by simp)) rfl ?_ (by omega) (by omega) (by omega) (by simp <;> omega) ?_))
 ·intro v hv
  simp only [List.mem_cons, List.not_mem_nil, or_false] at hv
  rcases hv with h | h | h | h | h | h | h | h | h <;> (rw [h]; rfl)
 intro g cap w1 zs h1 h2
 have B1 := As.mk ((HBa.out _ _ _ _).trans (h2.mono (by omega)))
 have hbk := (h2.block W.heap.size (by omega)).trans (HXa.out _ _ _ _)
 obtain ⟨k0, k1, k2, k3, k4, k5, k6, k7, k8, k9, k10⟩ := cells11 hbk
 clear h1 h2 hbk
 generalize hb : W.heap.size = b at *
 have HBe := As.mk hb
 clear hb HBa HXa
 go_upto_region 11 with fail
 go_quiet (fail)
 go_wp2_with fail
 go_ret2
 exact ⟨_, rfl, by rw [HBe.out]; exact ⟨B1.out.os, B1.out.tape, B1.out.output, B1.out.size, B1.out.block⟩⟩
set_option maxHeartbeats 4000000 in
set_option maxRecDepth 100000 in
theorem rchk_b {W : World} {kd l o s t c : Int} {u : Bool} {ak ad ak2 ad2 : Option Addr} {nk ck nd cd ck2 cd2 : Nat} (hl : 1 ≤ l)
  (hF : ∀ w, Calls Tryz.prog 125 #[.agg #[.int .i64 kd, .int .u64 l, .int .u32 1, .int .u32 o, .int .i64 s, .bool u, .int .i64 t, .int .i64 c, .int .u64 0, .slice ak nk ck, .slice ad nd cd]] w fun e W' => FieldsOk w W' e)
  (hP : ∀ w, Calls Tryz.prog 126 #[.agg #[.int .i64 kd, .int .u64 l, .int .u32 1, .int .u32 o, .int .i64 s, .bool u, .int .i64 t, .int .i64 c, .int .u64 0, .slice ak nk ck, .slice ad nd cd]] w fun e W' => e = .returned (.agg #[.int .i64 kd, .int .u64 l, .int .u32 1, .int .u32 o, .int .i64 s, .bool u, .int .i64 t, .int .i64 c, .int .u64 0, .slice ak2 nk ck2, .slice ad2 nd cd2]) ∧ Below w.heap.size w W')
  (hS : ∀ w, Below W.heap.size W w → Calls Tryz.prog 62 #[.agg #[.int .i64 kd, .int .u64 l, .int .u32 1, .int .u32 o, .int .i64 s, .bool u, .int .i64 t, .int .i64 c, .int .u64 0, .slice ak nk ck, .slice ad nd cd], .agg #[.int .i64 kd, .int .u64 l, .int .u32 1, .int .u32 o, .int .i64 s, .bool u, .int .i64 t, .int .i64 c, .int .u64 0, .slice ak2 nk ck2, .slice ad2 nd cd2]] w fun e W' => e = .returned (.bool true) ∧ Below w.heap.size w W') :
  Calls Tryz.prog 101 #[.agg #[.int .i64 kd, .int .u64 l, .int .u32 1, .int .u32 o, .int .i64 s, .bool u, .int .i64 t, .int .i64 c, .int .u64 0, .slice ak nk ck, .slice ad nd cd]] W fun e W' => e = .returned (.int .i64 0) ∧ Below W.heap.size W W' := by
 have HF := As.mk hF
 have HP := As.mk hP
 have HS := As.mk hS
 have e1 : decide (l < 1) = false := by simp; omega
 clear hl hF hP hS
 go_enter Tryz.func101, Tryz.ntmps101
 go_wp2_with fail
 refine (HF.out _).mono ?_
 rintro e w1 ⟨v, rfl, q1⟩
 have hbox := (q1.block W.heap.size (by simp)).trans (heap_alloc_new W _)
 have B1 : As (Below W.heap.size W w1) := ⟨((Below.refl _ W).alloc (Nat.le_refl _) _).trans (q1.mono (by simp))⟩
 have hs1 := B1.out.size
 clear q1
 obtain ⟨b3, hb3⟩ : ∃ b3, b3 = W.heap.size := ⟨_, rfl⟩
 rw [← hb3] at hbox ⊢
 clear hb3
 go_upto_region 2 with fail
 refine wp_region_plan_kept (fun w' => w'.heap[b3]? = some (.cells #[.int .i64 kd, .int .u64 l, .int .u32 1, .int .u32 o, .int .i64 s, .bool u, .int .i64 t, .int .i64 c, .int .u64 0, .slice ak nk ck, .slice ad nd cd] 41 (0, 0))) [(1,0),(1,1),(1,2),(1,3),(0,4),(1,5),(1,6),(1,7),(1,8),(0,9),(1,10),(1,11),(1,12),(0,13),(0,14),(2,15),(2,16),(1,17),(1,18)] (by kernel_rfl) (by kernel_rfl) (by kernel_rfl) (by kernel_rfl) (fun _ _ _ _ _ h => h) hbox ?_
 simp only [tagged, List.filterMap_cons, List.filterMap_nil, List.getElem?_toArray, List.getElem?_cons_succ, List.getElem?_cons_zero, Option.map_some]
 iterate 4 (with_reducible refine wpKept_sure (fun K hK => ?_); go_simp; with_reducible refine hK _ ?_; clear hK K)
 refine wpKept_take (fun K hK => ?_)
 rw [if_pos (by rfl)]
 apply Exists.intro
 refine ⟨fun w' hw' => ?_, hK _ ?_⟩
 ·have j0 := (blk_cell hw' 1).trans rfl
  go_simp
  rfl
 clear hK K
 iterate 4 (with_reducible refine wpKept_sure (fun K hK => ?_); go_simp; with_reducible refine hK _ ?_; clear hK K)
 refine wpKept_take (fun K hK => ?_)
 rw [if_pos (by rfl)]
 apply Exists.intro
 refine ⟨fun w' hw' => ?_, hK _ ?_⟩
 ·have j0 := (blk_cell hw' 2).trans rfl
  go_simp
  rfl
 clear hK K
 iterate 3 (with_reducible refine wpKept_sure (fun K hK => ?_); go_simp; with_reducible refine hK _ ?_; clear hK K)
 refine wpKept_take (fun K hK => ?_)
 rw [if_pos (by rfl)]
 refine ⟨.agg #[.int .i64 kd, .int .u64 l, .int .u32 1, .int .u32 o, .int .i64 s, .bool u, .int .i64 t, .int .i64 c, .int .u64 0, .slice ak nk ck, .slice ad nd cd], fun w' hw' => exec_load_mid _ _ _ 41 (.tmp 1) rfl b3 0 rfl [.int .i64 kd, .int .u64 l, .int .u32 1, .int .u32 o, .int .i64 s, .bool u, .int .i64 t, .int .i64 c, .int .u64 0, .slice ak nk ck, .slice ad nd cd] _ (fun j v hv => by rw [Nat.zero_add, blk_cell hw']; simpa using hv) Tryz.underlying41 rfl size41, hK _ ?_⟩
 clear hK K
 refine wpKept_take (fun K hK => ?_)
 rw [if_pos (by rfl)]
 refine ⟨.agg #[.int .i64 kd, .int .u64 l, .int .u32 1, .int .u32 o, .int .i64 s, .bool u, .int .i64 t, .int .i64 c, .int .u64 0, .slice ak nk ck, .slice ad nd cd], fun w' hw' => exec_load_mid _ _ _ 41 (.tmp 1) rfl b3 0 rfl [.int .i64 kd, .int .u64 l, .int .u32 1, .int .u32 o, .int .i64 s, .bool u, .int .i64 t, .int .i64 c, .int .u64 0, .slice ak nk ck, .slice ad nd cd] _ (fun j v hv => by rw [Nat.zero_add, blk_cell hw']; simpa using hv) Tryz.underlying41 rfl size41, hK _ ?_⟩
 clear hK K
 with_reducible refine wpKept_next (fun K hK => ?_)
 go_simp
 refine (HP.out w1.drew).mono ?_
 rintro e w2 ⟨rfl, q1⟩
 have B2 : As (Below W.heap.size W w2) := ⟨B1.out.drew.trans (q1.mono hs1)⟩
 have hbox2 := (q1.block b3 (blk_lt hbox)).trans hbox
 have hs2 := B2.out.size
 refine hK _ _ hbox2 ?_
 clear hK K q1
 with_reducible refine wpKept_next (fun K hK => ?_)
 go_simp
 refine (HS.out w2 B2.out).mono ?_
 rintro e w3 ⟨rfl, q1⟩
 have B3 : As (Below W.heap.size W w3) := ⟨B2.out.trans (q1.mono hs2)⟩
 have hbox3 := (q1.block b3 (blk_lt hbox2)).trans hbox2
 refine hK _ _ hbox3 ?_
 clear hK K q1
 iterate 2 (with_reducible refine wpKept_sure (fun K hK => ?_); go_simp; with_reducible refine hK _ ?_; clear hK K)
 refine wpKept_nil ?_
 go_wp2_with fail
 go_ret
 exact ⟨rfl, B3.out⟩
theorem nilBytes (W : World) (A : Option Addr) : Bytes W A [] := ⟨fun y hy => (by cases hy), fun h => absurd rfl h⟩
theorem rchk_a {W : World} {e : Ent} (h : EntOk e) {ak ad : Option Addr} (ck cd : Nat) (hk : Bytes W ak e.key) (hd : Bytes W ad e.data) :
  Calls Tryz.prog 101 #[.agg (entC e ak ck ad cd).toArray] W fun x W' => x = .returned (.int .i64 0) ∧ Below W.heap.size W W' := by
 obtain ⟨hl, ho, hkind⟩ := h
 obtain ⟨kind, lsn, order, step, undo, tr, code, key, data⟩ := e
 simp only at hl ho hkind hk hd
 rcases hkind with ⟨rfl, h1, h2, h3, h4, rfl, rfl, rfl, rfl⟩ | ⟨rfl, rfl, rfl, h1, h2, h3, h4, rfl⟩ | ⟨rfl, rfl, rfl, h1, h2, h3, h4, h5, h6⟩
 ·have hn1 : key.length = 1 := h1
  have hn2 : data.length = 1 := h2
  have HS := fun w (hw : Below W.heap.size W w) => same_l (W := w) (kd := 2) (ls := lsn) (od := order) (st := 0) (tr := 0) (co := 0) (u := false) (ck := ck) (cd := cd) (ck' := ck) (cd' := cd) (hk.below hw (Nat.le_refl _)) (hd.below hw (Nat.le_refl _)) (hk.below hw (Nat.le_refl _)) (hd.below hw (Nat.le_refl _))
  unfold entC
  simp only [hn1, hn2] at HS ⊢
  exact rchk_b hl.1 (fun w => fields2_a lsn order ak ad ck cd hl ho w) (fun w => plain2_a lsn order false ak ad 1 ck 1 cd w) HS
 ·exact rchk_b hl.1 (fun w => fields3_a lsn order step tr undo ak ad 0 ck 0 cd hl ho ⟨h1, h2⟩ ⟨h3, h4⟩ w) (fun w => plain3_a lsn order step tr undo ak ad 0 ck 0 cd w) (fun w hw => same_l (nilBytes _ _) (nilBytes _ _) (nilBytes _ _) (nilBytes _ _))
 ·exact rchk_b hl.1 (fun w => fields4_a lsn order step tr code undo ak ad 0 ck 0 cd hl ho ⟨h1, h2⟩ ⟨h3, h4⟩ ⟨h5, h6⟩ w) (fun w => plain4_a lsn order step tr code undo ak ad 0 ck 0 cd w) (fun w hw => same_l (nilBytes _ _) (nilBytes _ _) (nilBytes _ _) (nilBytes _ _))
end Go.Proofs.YthfjhgdiakciaaaGreat.Bl
