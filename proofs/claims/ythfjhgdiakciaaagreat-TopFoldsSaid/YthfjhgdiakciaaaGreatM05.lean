/- An entry's bytes (Put). Condition: the entry is one of those that the law makes. -/
import Derived.Test.YthfjhgdiakciaaaGreatM04
namespace Go.Proofs.YthfjhgdiakciaaaGreat.Bl
open Go.RowKit
set_option linter.unusedVariables false
set_option linter.unusedSimpArgs false
def bitF (u : Bool) : Int := if u then 1 else 0
theorem bitF_range (u : Bool) : 0 ≤ bitF u ∧ bitF u < 256 := by cases u <;> simp [bitF]
theorem bit_a (u : Bool) (W : World) : Calls Tryz.prog 89 #[.bool u] W fun e W' => e = .returned (.int .u8 (bitF u)) ∧ W = W' := by
 cases u
 ·go_enter Tryz.func89, Tryz.ntmps89
  go_wp2_with fail
  go_ret
  exact ⟨rfl, rfl⟩
 ·go_enter Tryz.func89, Tryz.ntmps89
  go_wp2_with fail
  go_ret
  exact ⟨rfl, rfl⟩
/-- An entry's bytes. -/
def entF (e : Ent) : List Int :=
 if e.kind = 2 then be 2 1 ++ be e.lsn 8 ++ be 1 4 ++ be e.order 4 ++ be e.key.length 1 ++ e.key ++ be e.data.length 1 ++ e.data
 else if e.kind = 3 then be 3 1 ++ be e.lsn 8 ++ be 1 4 ++ be e.order 4 ++ be e.step 1 ++ be (bitF e.undo) 1 ++ be e.tr 1
 else be 4 1 ++ be e.lsn 8 ++ be 1 4 ++ be e.order 4 ++ be e.step 1 ++ be (bitF e.undo) 1 ++ be e.tr 1 ++ be e.code 1
theorem Bytes.under {W W' : World} {q o B : Nat} {x : List Int} (h : Bytes W (some ⟨q, o, none⟩) x) (hb : Below B W W') (hq : q < B) : Bytes W' (some ⟨q, o, none⟩) x :=
 h.keep (fun q' o' e _ => by injection e with e; injection e with e1 e2; subst e1; exact hb.block q hq) hb.size
theorem Wt.drew {W : World} {base p : Nat} {x : List Int} (h : Wt W base p x) : Wt W.drew base p x := ⟨h.ok, h.lo, h.at_⟩
theorem Bytes.drew {W : World} {A : Option Addr} {x : List Int} (h : Bytes W A x) : Bytes W.drew A x := h
set_option maxHeartbeats 4000000 in
set_option maxRecDepth 100000 in
theorem put2_a (l o : Int) (qk ok ck qd od cd : Nat) (key data : List Int) (hl : 1 ≤ l ∧ l < 1000000) (ho : 1 ≤ o ∧ o < 1000000) (hkl : 1 ≤ key.length ∧ key.length ≤ 32) (hdl : 1 ≤ data.length ∧ data.length ≤ 200) {W : World} (hk : Bytes W (some ⟨qk, ok, none⟩) key) (hd : Bytes W (some ⟨qd, od, none⟩) data) (hqk : qk < W.heap.size) (hqd : qd < W.heap.size) :
  Calls Tryz.prog 45 #[.agg #[.int .i64 2, .int .u64 l, .int .u32 1, .int .u32 o, .int .i64 0, .bool false, .int .i64 0, .int .i64 0, .int .u64 0, .slice (some ⟨qk, ok, none⟩) key.length ck, .slice (some ⟨qd, od, none⟩) data.length cd]] W
   fun e W' => ∃ v, e = .returned (.tuple #[v, .int .i64 0]) ∧ W'.ownsRow W.heap.size 5 1 v (19 + key.length + data.length) (bv (be 2 1 ++ be l 8 ++ be 1 4 ++ be o 4 ++ be key.length 1 ++ key ++ be data.length 1 ++ data)) ∧ Below W.heap.size W W' := by
 have HK := As.mk hk
 have HD := As.mk hd
 clear hk hd
 have hwk : IntKind.u8.wrap 2 = 2 := by decide
 go_enter Tryz.func45, Tryz.ntmps45
 go_wp2_with fail
 refine (check2_a _ _ _ _ _ _ _ _ hkl (by omega) hl ho _).mono ?_
 rintro e w1 ⟨rfl, b1⟩
 have HBK : As (w1.heap[W.heap.size]? = some (.cells #[.int .i64 2, .int .u64 l, .int .u32 1, .int .u32 o, .int .i64 0, .bool false, .int .i64 0, .int .i64 0, .int .u64 0, .slice (some ⟨qk, ok, none⟩) key.length ck, .slice (some ⟨qd, od, none⟩) data.length cd] 41 (0, 0))) := ⟨(b1.block W.heap.size (by simp)).trans (heap_alloc_new W _)⟩
 have B1 := As.mk (((Below.refl W.heap.size W).alloc (Nat.le_refl _) _).trans (b1.mono (by simp)))
 have HK := As.mk (HK.out.under B1.out hqk)
 have HD := As.mk (HD.out.under B1.out hqd)
 have hs1 := B1.out.size
 have hlt : W.heap.size < w1.heap.size := blk_lt HBK.out
 clear b1
 generalize hb : W.heap.size = b at *
 have HBe := As.mk hb
 clear hb
 go_upto_region 4 with fail
 refine wp_region_plan_kept (fun w' => w'.heap[b]? = some (.cells #[.int .i64 2, .int .u64 l, .int .u32 1, .int .u32 o, .int .i64 0, .bool false, .int .i64 0, .int .i64 0, .int .u64 0, .slice (some ⟨qk, ok, none⟩) key.length ck, .slice (some ⟨qd, od, none⟩) data.length cd] 41 (0, 0))) [(1,1),(0,2),(1,3),(1,5),(0,6),(1,8),(0,9),(2,0),(2,4),(2,7),(2,10),(2,11)] (by kernel_rfl) (by kernel_rfl) (by kernel_rfl) (by kernel_rfl) (fun _ _ _ _ _ h => h) HBK.out ?_
 simp only [tagged, List.filterMap_cons, List.filterMap_nil, List.getElem?_toArray, List.getElem?_cons_succ, List.getElem?_cons_zero, Option.map_some]
 refine wpKept_sure (fun K hK => ?_); go_simp; refine hK _ ?_; clear hK K
 refine wpKept_take (fun K hK => ?_)
 rw [if_pos (by rfl)]
 apply Exists.intro
 refine ⟨fun w' hw' => ?_, hK _ ?_⟩
 ·obtain ⟨k0, k1, k2, k3, k4, k5, k6, k7, k8, k9, k10⟩ := cells11 hw'
  go_simp
  rfl
 clear hK K
 refine wpKept_sure (fun K hK => ?_); go_simp; refine hK _ ?_; clear hK K
 refine wpKept_sure (fun K hK => ?_); go_simp; refine hK _ ?_; clear hK K
 refine wpKept_take (fun K hK => ?_)
 rw [if_pos (by rfl)]
 apply Exists.intro
 refine ⟨fun w' hw' => ?_, hK _ ?_⟩
 ·obtain ⟨k0, k1, k2, k3, k4, k5, k6, k7, k8, k9, k10⟩ := cells11 hw'
  go_simp
  rfl
 clear hK K
 refine wpKept_sure (fun K hK => ?_); go_simp; refine hK _ ?_; clear hK K
 refine wpKept_take (fun K hK => ?_)
 rw [if_pos (by rfl)]
 apply Exists.intro
 refine ⟨fun w' hw' => ?_, hK _ ?_⟩
 ·obtain ⟨k0, k1, k2, k3, k4, k5, k6, k7, k8, k9, k10⟩ := cells11 hw'
  go_simp
  rfl
 clear hK K
 refine wpKept_next (fun K hK => ?_)
 go_simp
 refine (neww_a _).mono ?_
 rintro e w2 ⟨p, rfl, q1, q2⟩
 have hdr : w1.drew.heap.size = w1.heap.size := rfl
 rw [hdr] at q1 q2
 obtain ⟨base, hbase⟩ : ∃ base, base = w1.heap.size := ⟨_, rfl⟩
 rw [← hbase] at q1 q2 hlt
 have HBA := As.mk hbase
 have HBK : As (w2.heap[b]? = some (.cells #[.int .i64 2, .int .u64 l, .int .u32 1, .int .u32 o, .int .i64 0, .bool false, .int .i64 0, .int .i64 0, .int .u64 0, .slice (some ⟨qk, ok, none⟩) key.length ck, .slice (some ⟨qd, od, none⟩) data.length cd] 41 (0, 0))) := ⟨(q2.block b hlt).trans HBK.out⟩
 have H := As.mk q1
 have B2 : As (Below base w1 w2) := ⟨⟨q2.os, q2.tape, q2.output, q2.size, q2.block⟩⟩
 have HK := As.mk (HK.out.under B2.out (by omega))
 have HD := As.mk (HD.out.under B2.out (by omega))
 clear q1 q2 hdr hbase
 refine hK _ _ HBK.out ?_
 clear hK K
 refine wpKept_next (fun K hK => ?_)
 go_simp
 refine (u8_a H.out 2 (by omega) (by simp only [List.length_append, List.length_nil, be_len]; omega)).mono ?_
 rintro e w3 ⟨rfl, q1, q2⟩
 have HBK : As (w3.heap[b]? = some (.cells #[.int .i64 2, .int .u64 l, .int .u32 1, .int .u32 o, .int .i64 0, .bool false, .int .i64 0, .int .i64 0, .int .u64 0, .slice (some ⟨qk, ok, none⟩) key.length ck, .slice (some ⟨qd, od, none⟩) data.length cd] 41 (0, 0))) := ⟨(q2.block b hlt).trans HBK.out⟩
 have H := As.mk q1
 have B2 := As.mk (B2.out.trans q2)
 have HK := As.mk (HK.out.under q2 (by omega))
 have HD := As.mk (HD.out.under q2 (by omega))
 clear q1 q2
 refine hK _ _ HBK.out ?_
 clear hK K
 refine wpKept_next (fun K hK => ?_)
 go_simp
 refine (u64_a H.out l (by omega) (by simp only [List.length_append, List.length_nil, be_len]; omega)).mono ?_
 rintro e w4 ⟨rfl, q1, q2⟩
 have HBK : As (w4.heap[b]? = some (.cells #[.int .i64 2, .int .u64 l, .int .u32 1, .int .u32 o, .int .i64 0, .bool false, .int .i64 0, .int .i64 0, .int .u64 0, .slice (some ⟨qk, ok, none⟩) key.length ck, .slice (some ⟨qd, od, none⟩) data.length cd] 41 (0, 0))) := ⟨(q2.block b hlt).trans HBK.out⟩
 have H := As.mk q1
 have B2 := As.mk (B2.out.trans q2)
 have HK := As.mk (HK.out.under q2 (by omega))
 have HD := As.mk (HD.out.under q2 (by omega))
 clear q1 q2
 refine hK _ _ HBK.out ?_
 clear hK K
 refine wpKept_next (fun K hK => ?_)
 go_simp
 refine (u32_a H.out 1 (by omega) (by simp only [List.length_append, List.length_nil, be_len]; omega)).mono ?_
 rintro e w5 ⟨rfl, q1, q2⟩
 have HBK : As (w5.heap[b]? = some (.cells #[.int .i64 2, .int .u64 l, .int .u32 1, .int .u32 o, .int .i64 0, .bool false, .int .i64 0, .int .i64 0, .int .u64 0, .slice (some ⟨qk, ok, none⟩) key.length ck, .slice (some ⟨qd, od, none⟩) data.length cd] 41 (0, 0))) := ⟨(q2.block b hlt).trans HBK.out⟩
 have H := As.mk q1
 have B2 := As.mk (B2.out.trans q2)
 have HK := As.mk (HK.out.under q2 (by omega))
 have HD := As.mk (HD.out.under q2 (by omega))
 clear q1 q2
 refine hK _ _ HBK.out ?_
 clear hK K
 refine wpKept_next (fun K hK => ?_)
 go_simp
 refine hK _ _ HBK.out ?_
 clear hK K
 refine wpKept_nil ?_
 have HBK := HBK
 obtain ⟨k0, k1, k2, k3, k4, k5, k6, k7, k8, k9, k10⟩ := cells11 HBK.out
 go_upto_region 7 with fail
 have H := As.mk H.out.drew
 have B2 := As.mk B2.out.drew
 have HK := As.mk HK.out.drew
 have HD := As.mk HD.out.drew
 refine wp_region_plan_kept (fun w' => w'.heap[b]? = some (.cells #[.int .i64 2, .int .u64 l, .int .u32 1, .int .u32 o, .int .i64 0, .bool false, .int .i64 0, .int .i64 0, .int .u64 0, .slice (some ⟨qk, ok, none⟩) key.length ck, .slice (some ⟨qd, od, none⟩) data.length cd] 41 (0, 0))) [(1,0),(1,1),(0,2),(1,4),(0,5),(1,7),(0,8),(2,3),(2,6),(2,9)] (by kernel_rfl) (by kernel_rfl) (by kernel_rfl) (by kernel_rfl) (fun _ _ _ _ _ h => h) HBK.out ?_
 simp only [tagged, List.filterMap_cons, List.filterMap_nil, List.getElem?_toArray, List.getElem?_cons_succ, List.getElem?_cons_zero, Option.map_some]
 clear k0 k1 k2 k3 k4 k5 k6 k7 k8 k9 k10
 refine wpKept_sure (fun K hK => ?_); go_simp; refine hK _ ?_; clear hK K
 refine wpKept_sure (fun K hK => ?_); go_simp; refine hK _ ?_; clear hK K
 refine wpKept_take (fun K hK => ?_)
 rw [if_pos (by rfl)]
 apply Exists.intro
 refine ⟨fun w' hw' => ?_, hK _ ?_⟩
 ·obtain ⟨k0, k1, k2, k3, k4, k5, k6, k7, k8, k9, k10⟩ := cells11 hw'
  go_simp
  rfl
 clear hK K
 refine wpKept_sure (fun K hK => ?_); go_simp; refine hK _ ?_; clear hK K
 refine wpKept_take (fun K hK => ?_)
 rw [if_pos (by rfl)]
 apply Exists.intro
 refine ⟨fun w' hw' => ?_, hK _ ?_⟩
 ·obtain ⟨k0, k1, k2, k3, k4, k5, k6, k7, k8, k9, k10⟩ := cells11 hw'
  go_simp
  rfl
 clear hK K
 refine wpKept_sure (fun K hK => ?_); go_simp; refine hK _ ?_; clear hK K
 refine wpKept_take (fun K hK => ?_)
 rw [if_pos (by rfl)]
 apply Exists.intro
 refine ⟨fun w' hw' => ?_, hK _ ?_⟩
 ·obtain ⟨k0, k1, k2, k3, k4, k5, k6, k7, k8, k9, k10⟩ := cells11 hw'
  go_simp
  rfl
 clear hK K
 refine wpKept_next (fun K hK => ?_)
 go_simp
 refine (u32_a H.out o (by omega) (by simp only [List.length_append, List.length_nil, be_len]; omega)).mono ?_
 rintro e w6 ⟨rfl, q1, q2⟩
 have HBK : As (w6.heap[b]? = some (.cells #[.int .i64 2, .int .u64 l, .int .u32 1, .int .u32 o, .int .i64 0, .bool false, .int .i64 0, .int .i64 0, .int .u64 0, .slice (some ⟨qk, ok, none⟩) key.length ck, .slice (some ⟨qd, od, none⟩) data.length cd] 41 (0, 0))) := ⟨(q2.block b hlt).trans HBK.out⟩
 have H := As.mk q1
 have B2 := As.mk (B2.out.trans q2)
 have HK := As.mk (HK.out.under q2 (by omega))
 have HD := As.mk (HD.out.under q2 (by omega))
 clear q1 q2
 refine hK _ _ HBK.out ?_
 clear hK K
 refine wpKept_next (fun K hK => ?_)
 go_simp
 refine (text_a H.out HK.out (by omega) (by omega) (by omega) _ (by simp only [List.length_append, List.length_nil, be_len]; omega)).mono ?_
 rintro e w7 ⟨rfl, q1, q2⟩
 have HBK : As (w7.heap[b]? = some (.cells #[.int .i64 2, .int .u64 l, .int .u32 1, .int .u32 o, .int .i64 0, .bool false, .int .i64 0, .int .i64 0, .int .u64 0, .slice (some ⟨qk, ok, none⟩) key.length ck, .slice (some ⟨qd, od, none⟩) data.length cd] 41 (0, 0))) := ⟨(q2.block b hlt).trans HBK.out⟩
 have H := As.mk q1
 have B2 := As.mk (B2.out.trans q2)
 have HK := As.mk (HK.out.under q2 (by omega))
 have HD := As.mk (HD.out.under q2 (by omega))
 clear q1 q2
 refine hK _ _ HBK.out ?_
 clear hK K
 refine wpKept_next (fun K hK => ?_)
 go_simp
 refine (text_a H.out HD.out (by omega) (by omega) (by omega) _ (by simp only [List.length_append, List.length_nil, be_len]; omega)).mono ?_
 rintro e w8 ⟨rfl, q1, q2⟩
 have HBK : As (w8.heap[b]? = some (.cells #[.int .i64 2, .int .u64 l, .int .u32 1, .int .u32 o, .int .i64 0, .bool false, .int .i64 0, .int .i64 0, .int .u64 0, .slice (some ⟨qk, ok, none⟩) key.length ck, .slice (some ⟨qd, od, none⟩) data.length cd] 41 (0, 0))) := ⟨(q2.block b hlt).trans HBK.out⟩
 have H := As.mk q1
 have B2 := As.mk (B2.out.trans q2)
 have HK := As.mk (HK.out.under q2 (by omega))
 have HD := As.mk (HD.out.under q2 (by omega))
 clear q1 q2
 refine hK _ _ HBK.out ?_
 clear hK K
 refine wpKept_nil ?_
 have hbts : As ([] ++ be 2 1 ++ be l 8 ++ be 1 4 ++ be o 4 ++ be key.length 1 ++ key ++ be data.length 1 ++ data = be 2 1 ++ be l 8 ++ be 1 4 ++ be o 4 ++ be key.length 1 ++ key ++ be data.length 1 ++ data) := ⟨by simp only [List.nil_append]⟩
 have hlen : As ((be 2 1 ++ be l 8 ++ be 1 4 ++ be o 4 ++ be key.length 1 ++ key ++ be data.length 1 ++ data).length = (19 + key.length + data.length)) := ⟨by simp only [List.length_append, be_len]; omega⟩
 have HX := H.out
 rw [hbts.out] at HX
 obtain ⟨x, hx⟩ : ∃ x, x = be 2 1 ++ be l 8 ++ be 1 4 ++ be o 4 ++ be key.length 1 ++ key ++ be data.length 1 ++ data := ⟨_, rfl⟩
 have HXE := As.mk hx
 rw [← hx] at HX
 have hxl : x.length = (19 + key.length + data.length) := by rw [hx]; exact hlen.out
 have HX := As.mk HX
 have HXL := As.mk hxl
 clear hx hxl hbts H
 go_wp2_with fail
 refine (done_a HX.out (by rw [HXL.out]; omega) (by rw [HXL.out]; omega)).mono ?_
 rintro e wz ⟨v, rfl, q1, q2⟩
 have Q1 := As.mk q1
 have Q2 := As.mk q2
 clear q1 q2
 go_wp2_with fail
 go_ret2
 have hb2 : Below b w1 w8 := B2.out.mono (by omega)
 have hsz := hb2.size
 refine ⟨v, rfl, ?_, ?_⟩
 ·rw [HBe.out, ← HXE.out, ← HXL.out]
  obtain ⟨a1, a2⟩ := Q1.out
  refine ⟨a1, ?_⟩
  rcases a2 with a2 | ⟨g', cp, cur, e, b1, b2⟩
  ·exact .inl a2
  ·exact .inr ⟨g', cp, cur, e, by omega, b2⟩
 ·rw [HBe.out]
  exact B1.out.trans (hb2.trans (Q2.out.mono (by omega)))
set_option maxHeartbeats 4000000 in
set_option maxRecDepth 100000 in
theorem put3_a (l o s t : Int) (u : Bool) (ak ad : Option Addr) (ck cd : Nat) (hl : 1 ≤ l ∧ l < 1000000) (ho : 1 ≤ o ∧ o < 1000000) (hs : 0 ≤ s ∧ s < 16) (ht : 1 ≤ t ∧ t ≤ 255) {W : World} :
  Calls Tryz.prog 45 #[.agg #[.int .i64 3, .int .u64 l, .int .u32 1, .int .u32 o, .int .i64 s, .bool u, .int .i64 t, .int .i64 0, .int .u64 0, .slice ak 0 ck, .slice ad 0 cd]] W
   fun e W' => ∃ v, e = .returned (.tuple #[v, .int .i64 0]) ∧ W'.ownsRow W.heap.size 5 1 v 20 (bv (be 3 1 ++ be l 8 ++ be 1 4 ++ be o 4 ++ be s 1 ++ be (bitF u) 1 ++ be t 1)) ∧ Below W.heap.size W W' := by
 have hws : IntKind.u8.wrap s = s := by simp [IntKind.wrap, IntKind.bits, IntKind.signed]; omega
 have hwt : IntKind.u8.wrap t = t := by simp [IntKind.wrap, IntKind.bits, IntKind.signed]; omega
 have hwk : IntKind.u8.wrap 3 = 3 := by decide
 go_enter Tryz.func45, Tryz.ntmps45
 go_wp2_with fail
 refine (check3_a _ _ _ _ _ _ _ _ _ hl ho hs ht _).mono ?_
 rintro e w1 ⟨rfl, b1⟩
 have HBK : As (w1.heap[W.heap.size]? = some (.cells #[.int .i64 3, .int .u64 l, .int .u32 1, .int .u32 o, .int .i64 s, .bool u, .int .i64 t, .int .i64 0, .int .u64 0, .slice ak 0 ck, .slice ad 0 cd] 41 (0, 0))) := ⟨(b1.block W.heap.size (by simp)).trans (heap_alloc_new W _)⟩
 have B1 := As.mk (((Below.refl W.heap.size W).alloc (Nat.le_refl _) _).trans (b1.mono (by simp)))
 have hs1 := B1.out.size
 have hlt : W.heap.size < w1.heap.size := blk_lt HBK.out
 clear b1
 generalize hb : W.heap.size = b at *
 have HBe := As.mk hb
 clear hb
 go_upto_region 4 with fail
 refine wp_region_plan_kept (fun w' => w'.heap[b]? = some (.cells #[.int .i64 3, .int .u64 l, .int .u32 1, .int .u32 o, .int .i64 s, .bool u, .int .i64 t, .int .i64 0, .int .u64 0, .slice ak 0 ck, .slice ad 0 cd] 41 (0, 0))) [(1,1),(0,2),(1,3),(1,5),(0,6),(1,8),(0,9),(2,0),(2,4),(2,7),(2,10),(2,11)] (by kernel_rfl) (by kernel_rfl) (by kernel_rfl) (by kernel_rfl) (fun _ _ _ _ _ h => h) HBK.out ?_
 simp only [tagged, List.filterMap_cons, List.filterMap_nil, List.getElem?_toArray, List.getElem?_cons_succ, List.getElem?_cons_zero, Option.map_some]
 refine wpKept_sure (fun K hK => ?_); go_simp; refine hK _ ?_; clear hK K
 refine wpKept_take (fun K hK => ?_)
 rw [if_pos (by rfl)]
 apply Exists.intro
 refine ⟨fun w' hw' => ?_, hK _ ?_⟩
 ·obtain ⟨k0, k1, k2, k3, k4, k5, k6, k7, k8, k9, k10⟩ := cells11 hw'
  go_simp
  rfl
 clear hK K
 refine wpKept_sure (fun K hK => ?_); go_simp; refine hK _ ?_; clear hK K
 refine wpKept_sure (fun K hK => ?_); go_simp; refine hK _ ?_; clear hK K
 refine wpKept_take (fun K hK => ?_)
 rw [if_pos (by rfl)]
 apply Exists.intro
 refine ⟨fun w' hw' => ?_, hK _ ?_⟩
 ·obtain ⟨k0, k1, k2, k3, k4, k5, k6, k7, k8, k9, k10⟩ := cells11 hw'
  go_simp
  rfl
 clear hK K
 refine wpKept_sure (fun K hK => ?_); go_simp; refine hK _ ?_; clear hK K
 refine wpKept_take (fun K hK => ?_)
 rw [if_pos (by rfl)]
 apply Exists.intro
 refine ⟨fun w' hw' => ?_, hK _ ?_⟩
 ·obtain ⟨k0, k1, k2, k3, k4, k5, k6, k7, k8, k9, k10⟩ := cells11 hw'
  go_simp
  rfl
 clear hK K
 refine wpKept_next (fun K hK => ?_)
 go_simp
 refine (neww_a _).mono ?_
 rintro e w2 ⟨p, rfl, q1, q2⟩
 have hdr : w1.drew.heap.size = w1.heap.size := rfl
 rw [hdr] at q1 q2
 obtain ⟨base, hbase⟩ : ∃ base, base = w1.heap.size := ⟨_, rfl⟩
 rw [← hbase] at q1 q2 hlt
 have HBA := As.mk hbase
 have HBK : As (w2.heap[b]? = some (.cells #[.int .i64 3, .int .u64 l, .int .u32 1, .int .u32 o, .int .i64 s, .bool u, .int .i64 t, .int .i64 0, .int .u64 0, .slice ak 0 ck, .slice ad 0 cd] 41 (0, 0))) := ⟨(q2.block b hlt).trans HBK.out⟩
 have H := As.mk q1
 have B2 : As (Below base w1 w2) := ⟨⟨q2.os, q2.tape, q2.output, q2.size, q2.block⟩⟩
 clear q1 q2 hdr hbase
 refine hK _ _ HBK.out ?_
 clear hK K
 refine wpKept_next (fun K hK => ?_)
 go_simp
 refine (u8_a H.out 3 (by omega) (by simp only [List.length_append, List.length_nil, be_len]; omega)).mono ?_
 rintro e w3 ⟨rfl, q1, q2⟩
 have HBK : As (w3.heap[b]? = some (.cells #[.int .i64 3, .int .u64 l, .int .u32 1, .int .u32 o, .int .i64 s, .bool u, .int .i64 t, .int .i64 0, .int .u64 0, .slice ak 0 ck, .slice ad 0 cd] 41 (0, 0))) := ⟨(q2.block b hlt).trans HBK.out⟩
 have H := As.mk q1
 have B2 := As.mk (B2.out.trans q2)
 clear q1 q2
 refine hK _ _ HBK.out ?_
 clear hK K
 refine wpKept_next (fun K hK => ?_)
 go_simp
 refine (u64_a H.out l (by omega) (by simp only [List.length_append, List.length_nil, be_len]; omega)).mono ?_
 rintro e w4 ⟨rfl, q1, q2⟩
 have HBK : As (w4.heap[b]? = some (.cells #[.int .i64 3, .int .u64 l, .int .u32 1, .int .u32 o, .int .i64 s, .bool u, .int .i64 t, .int .i64 0, .int .u64 0, .slice ak 0 ck, .slice ad 0 cd] 41 (0, 0))) := ⟨(q2.block b hlt).trans HBK.out⟩
 have H := As.mk q1
 have B2 := As.mk (B2.out.trans q2)
 clear q1 q2
 refine hK _ _ HBK.out ?_
 clear hK K
 refine wpKept_next (fun K hK => ?_)
 go_simp
 refine (u32_a H.out 1 (by omega) (by simp only [List.length_append, List.length_nil, be_len]; omega)).mono ?_
 rintro e w5 ⟨rfl, q1, q2⟩
 have HBK : As (w5.heap[b]? = some (.cells #[.int .i64 3, .int .u64 l, .int .u32 1, .int .u32 o, .int .i64 s, .bool u, .int .i64 t, .int .i64 0, .int .u64 0, .slice ak 0 ck, .slice ad 0 cd] 41 (0, 0))) := ⟨(q2.block b hlt).trans HBK.out⟩
 have H := As.mk q1
 have B2 := As.mk (B2.out.trans q2)
 clear q1 q2
 refine hK _ _ HBK.out ?_
 clear hK K
 refine wpKept_next (fun K hK => ?_)
 go_simp
 refine hK _ _ HBK.out ?_
 clear hK K
 refine wpKept_nil ?_
 have HBK := HBK
 obtain ⟨k0, k1, k2, k3, k4, k5, k6, k7, k8, k9, k10⟩ := cells11 HBK.out
 go_upto_region 9 with fail
 have H := As.mk H.out.drew
 have B2 := As.mk B2.out.drew
 refine wp_region_plan_kept (fun w' => w'.heap[b]? = some (.cells #[.int .i64 3, .int .u64 l, .int .u32 1, .int .u32 o, .int .i64 s, .bool u, .int .i64 t, .int .i64 0, .int .u64 0, .slice ak 0 ck, .slice ad 0 cd] 41 (0, 0))) [(1,0),(1,1),(0,2),(1,4),(0,5),(1,6),(1,8),(0,9),(1,12),(0,13),(1,14),(2,3),(2,7),(2,10),(2,11),(2,15)] (by kernel_rfl) (by kernel_rfl) (by kernel_rfl) (by kernel_rfl) (fun _ _ _ _ _ h => h) HBK.out ?_
 simp only [tagged, List.filterMap_cons, List.filterMap_nil, List.getElem?_toArray, List.getElem?_cons_succ, List.getElem?_cons_zero, Option.map_some]
 clear k0 k1 k2 k3 k4 k5 k6 k7 k8 k9 k10
 refine wpKept_sure (fun K hK => ?_); go_simp; refine hK _ ?_; clear hK K
 refine wpKept_sure (fun K hK => ?_); go_simp; refine hK _ ?_; clear hK K
 refine wpKept_take (fun K hK => ?_)
 rw [if_pos (by rfl)]
 apply Exists.intro
 refine ⟨fun w' hw' => ?_, hK _ ?_⟩
 ·obtain ⟨k0, k1, k2, k3, k4, k5, k6, k7, k8, k9, k10⟩ := cells11 hw'
  go_simp
  rfl
 clear hK K
 refine wpKept_sure (fun K hK => ?_); go_simp; refine hK _ ?_; clear hK K
 refine wpKept_take (fun K hK => ?_)
 rw [if_pos (by rfl)]
 apply Exists.intro
 refine ⟨fun w' hw' => ?_, hK _ ?_⟩
 ·obtain ⟨k0, k1, k2, k3, k4, k5, k6, k7, k8, k9, k10⟩ := cells11 hw'
  go_simp
  rfl
 clear hK K
 refine wpKept_sure (fun K hK => ?_); go_simp; refine hK _ ?_; clear hK K
 refine wpKept_sure (fun K hK => ?_); go_simp; refine hK _ ?_; clear hK K
 refine wpKept_take (fun K hK => ?_)
 rw [if_pos (by rfl)]
 apply Exists.intro
 refine ⟨fun w' hw' => ?_, hK _ ?_⟩
 ·obtain ⟨k0, k1, k2, k3, k4, k5, k6, k7, k8, k9, k10⟩ := cells11 hw'
  go_simp
  rfl
 clear hK K
 refine wpKept_sure (fun K hK => ?_); go_simp; refine hK _ ?_; clear hK K
 refine wpKept_take (fun K hK => ?_)
 rw [if_pos (by rfl)]
 apply Exists.intro
 refine ⟨fun w' hw' => ?_, hK _ ?_⟩
 ·obtain ⟨k0, k1, k2, k3, k4, k5, k6, k7, k8, k9, k10⟩ := cells11 hw'
  go_simp
  rfl
 clear hK K
 refine wpKept_sure (fun K hK => ?_); go_simp; refine hK _ ?_; clear hK K
 refine wpKept_next (fun K hK => ?_)
 go_simp
 refine (u32_a H.out o (by omega) (by simp only [List.length_append, List.length_nil, be_len]; omega)).mono ?_
 rintro e w6 ⟨rfl, q1, q2⟩
 have HBK : As (w6.heap[b]? = some (.cells #[.int .i64 3, .int .u64 l, .int .u32 1, .int .u32 o, .int .i64 s, .bool u, .int .i64 t, .int .i64 0, .int .u64 0, .slice ak 0 ck, .slice ad 0 cd] 41 (0, 0))) := ⟨(q2.block b hlt).trans HBK.out⟩
 have H := As.mk q1
 have B2 := As.mk (B2.out.trans q2)
 clear q1 q2
 refine hK _ _ HBK.out ?_
 clear hK K
 refine wpKept_next (fun K hK => ?_)
 go_simp
 refine (u8_a H.out s (by omega) (by simp only [List.length_append, List.length_nil, be_len]; omega)).mono ?_
 rintro e w7 ⟨rfl, q1, q2⟩
 have HBK : As (w7.heap[b]? = some (.cells #[.int .i64 3, .int .u64 l, .int .u32 1, .int .u32 o, .int .i64 s, .bool u, .int .i64 t, .int .i64 0, .int .u64 0, .slice ak 0 ck, .slice ad 0 cd] 41 (0, 0))) := ⟨(q2.block b hlt).trans HBK.out⟩
 have H := As.mk q1
 have B2 := As.mk (B2.out.trans q2)
 clear q1 q2
 refine hK _ _ HBK.out ?_
 clear hK K
 refine wpKept_next (fun K hK => ?_)
 go_simp
 refine (bit_a u _).mono ?_
 rintro e wx ⟨rfl, rfl⟩
 refine hK _ _ HBK.out ?_
 clear hK K
 refine wpKept_next (fun K hK => ?_)
 go_simp
 refine (u8_a H.out (bitF u) (bitF_range u) (by simp only [List.length_append, List.length_nil, be_len]; omega)).mono ?_
 rintro e w8 ⟨rfl, q1, q2⟩
 have HBK : As (w8.heap[b]? = some (.cells #[.int .i64 3, .int .u64 l, .int .u32 1, .int .u32 o, .int .i64 s, .bool u, .int .i64 t, .int .i64 0, .int .u64 0, .slice ak 0 ck, .slice ad 0 cd] 41 (0, 0))) := ⟨(q2.block b hlt).trans HBK.out⟩
 have H := As.mk q1
 have B2 := As.mk (B2.out.trans q2)
 clear q1 q2
 refine hK _ _ HBK.out ?_
 clear hK K
 refine wpKept_next (fun K hK => ?_)
 go_simp
 refine (u8_a H.out t (by omega) (by simp only [List.length_append, List.length_nil, be_len]; omega)).mono ?_
 rintro e w9 ⟨rfl, q1, q2⟩
 have HBK : As (w9.heap[b]? = some (.cells #[.int .i64 3, .int .u64 l, .int .u32 1, .int .u32 o, .int .i64 s, .bool u, .int .i64 t, .int .i64 0, .int .u64 0, .slice ak 0 ck, .slice ad 0 cd] 41 (0, 0))) := ⟨(q2.block b hlt).trans HBK.out⟩
 have H := As.mk q1
 have B2 := As.mk (B2.out.trans q2)
 clear q1 q2
 refine hK _ _ HBK.out ?_
 clear hK K
 refine wpKept_nil ?_
 have hbts : As ([] ++ be 3 1 ++ be l 8 ++ be 1 4 ++ be o 4 ++ be s 1 ++ be (bitF u) 1 ++ be t 1 = be 3 1 ++ be l 8 ++ be 1 4 ++ be o 4 ++ be s 1 ++ be (bitF u) 1 ++ be t 1) := ⟨by simp only [List.nil_append]⟩
 have hlen : As ((be 3 1 ++ be l 8 ++ be 1 4 ++ be o 4 ++ be s 1 ++ be (bitF u) 1 ++ be t 1).length = 20) := ⟨by simp only [List.length_append, be_len]⟩
 have HX := H.out
 rw [hbts.out] at HX
 obtain ⟨x, hx⟩ : ∃ x, x = be 3 1 ++ be l 8 ++ be 1 4 ++ be o 4 ++ be s 1 ++ be (bitF u) 1 ++ be t 1 := ⟨_, rfl⟩
 have HXE := As.mk hx
 rw [← hx] at HX
 have hxl : x.length = 20 := by rw [hx]; exact hlen.out
 have HX := As.mk HX
 have HXL := As.mk hxl
 clear hx hxl hbts H
 go_wp2_with fail
 refine (done_a HX.out (by rw [HXL.out]; omega) (by rw [HXL.out]; omega)).mono ?_
 rintro e wz ⟨v, rfl, q1, q2⟩
 have Q1 := As.mk q1
 have Q2 := As.mk q2
 clear q1 q2
 go_wp2_with fail
 go_ret2
 have hb2 : Below b w1 w9 := B2.out.mono (by omega)
 have hsz := hb2.size
 refine ⟨v, rfl, ?_, ?_⟩
 ·rw [HBe.out, ← HXE.out, ← HXL.out]
  obtain ⟨a1, a2⟩ := Q1.out
  refine ⟨a1, ?_⟩
  rcases a2 with a2 | ⟨g', cp, cur, e, b1, b2⟩
  ·exact .inl a2
  ·exact .inr ⟨g', cp, cur, e, by omega, b2⟩
 ·rw [HBe.out]
  exact B1.out.trans (hb2.trans (Q2.out.mono (by omega)))
set_option maxHeartbeats 4000000 in
set_option maxRecDepth 100000 in
theorem put4_a (l o s t c : Int) (u : Bool) (ak ad : Option Addr) (ck cd : Nat) (hl : 1 ≤ l ∧ l < 1000000) (ho : 1 ≤ o ∧ o < 1000000) (hs : 0 ≤ s ∧ s < 16) (ht : 1 ≤ t ∧ t ≤ 255) (hc : 1 ≤ c ∧ c ≤ 3) {W : World} :
  Calls Tryz.prog 45 #[.agg #[.int .i64 4, .int .u64 l, .int .u32 1, .int .u32 o, .int .i64 s, .bool u, .int .i64 t, .int .i64 c, .int .u64 0, .slice ak 0 ck, .slice ad 0 cd]] W
   fun e W' => ∃ v, e = .returned (.tuple #[v, .int .i64 0]) ∧ W'.ownsRow W.heap.size 5 1 v 21 (bv (be 4 1 ++ be l 8 ++ be 1 4 ++ be o 4 ++ be s 1 ++ be (bitF u) 1 ++ be t 1 ++ be c 1)) ∧ Below W.heap.size W W' := by
 have hws : IntKind.u8.wrap s = s := by simp [IntKind.wrap, IntKind.bits, IntKind.signed]; omega
 have hwt : IntKind.u8.wrap t = t := by simp [IntKind.wrap, IntKind.bits, IntKind.signed]; omega
 have hwc : IntKind.u8.wrap c = c := by simp [IntKind.wrap, IntKind.bits, IntKind.signed]; omega
 have hwk : IntKind.u8.wrap 4 = 4 := by decide
 go_enter Tryz.func45, Tryz.ntmps45
 go_wp2_with fail
 refine (check4_a _ _ _ _ _ _ _ _ _ _ hl ho hs ht hc _).mono ?_
 rintro e w1 ⟨rfl, b1⟩
 have HBK : As (w1.heap[W.heap.size]? = some (.cells #[.int .i64 4, .int .u64 l, .int .u32 1, .int .u32 o, .int .i64 s, .bool u, .int .i64 t, .int .i64 c, .int .u64 0, .slice ak 0 ck, .slice ad 0 cd] 41 (0, 0))) := ⟨(b1.block W.heap.size (by simp)).trans (heap_alloc_new W _)⟩
 have B1 := As.mk (((Below.refl W.heap.size W).alloc (Nat.le_refl _) _).trans (b1.mono (by simp)))
 have hs1 := B1.out.size
 have hlt : W.heap.size < w1.heap.size := blk_lt HBK.out
 clear b1
 generalize hb : W.heap.size = b at *
 have HBe := As.mk hb
 clear hb
 go_upto_region 4 with fail
 refine wp_region_plan_kept (fun w' => w'.heap[b]? = some (.cells #[.int .i64 4, .int .u64 l, .int .u32 1, .int .u32 o, .int .i64 s, .bool u, .int .i64 t, .int .i64 c, .int .u64 0, .slice ak 0 ck, .slice ad 0 cd] 41 (0, 0))) [(1,1),(0,2),(1,3),(1,5),(0,6),(1,8),(0,9),(2,0),(2,4),(2,7),(2,10),(2,11)] (by kernel_rfl) (by kernel_rfl) (by kernel_rfl) (by kernel_rfl) (fun _ _ _ _ _ h => h) HBK.out ?_
 simp only [tagged, List.filterMap_cons, List.filterMap_nil, List.getElem?_toArray, List.getElem?_cons_succ, List.getElem?_cons_zero, Option.map_some]
 refine wpKept_sure (fun K hK => ?_); go_simp; refine hK _ ?_; clear hK K
 refine wpKept_take (fun K hK => ?_)
 rw [if_pos (by rfl)]
 apply Exists.intro
 refine ⟨fun w' hw' => ?_, hK _ ?_⟩
 ·obtain ⟨k0, k1, k2, k3, k4, k5, k6, k7, k8, k9, k10⟩ := cells11 hw'
  go_simp
  rfl
 clear hK K
 refine wpKept_sure (fun K hK => ?_); go_simp; refine hK _ ?_; clear hK K
 refine wpKept_sure (fun K hK => ?_); go_simp; refine hK _ ?_; clear hK K
 refine wpKept_take (fun K hK => ?_)
 rw [if_pos (by rfl)]
 apply Exists.intro
 refine ⟨fun w' hw' => ?_, hK _ ?_⟩
 ·obtain ⟨k0, k1, k2, k3, k4, k5, k6, k7, k8, k9, k10⟩ := cells11 hw'
  go_simp
  rfl
 clear hK K
 refine wpKept_sure (fun K hK => ?_); go_simp; refine hK _ ?_; clear hK K
 refine wpKept_take (fun K hK => ?_)
 rw [if_pos (by rfl)]
 apply Exists.intro
 refine ⟨fun w' hw' => ?_, hK _ ?_⟩
 ·obtain ⟨k0, k1, k2, k3, k4, k5, k6, k7, k8, k9, k10⟩ := cells11 hw'
  go_simp
  rfl
 clear hK K
 refine wpKept_next (fun K hK => ?_)
 go_simp
 refine (neww_a _).mono ?_
 rintro e w2 ⟨p, rfl, q1, q2⟩
 have hdr : w1.drew.heap.size = w1.heap.size := rfl
 rw [hdr] at q1 q2
 obtain ⟨base, hbase⟩ : ∃ base, base = w1.heap.size := ⟨_, rfl⟩
 rw [← hbase] at q1 q2 hlt
 have HBA := As.mk hbase
 have HBK : As (w2.heap[b]? = some (.cells #[.int .i64 4, .int .u64 l, .int .u32 1, .int .u32 o, .int .i64 s, .bool u, .int .i64 t, .int .i64 c, .int .u64 0, .slice ak 0 ck, .slice ad 0 cd] 41 (0, 0))) := ⟨(q2.block b hlt).trans HBK.out⟩
 have H := As.mk q1
 have B2 : As (Below base w1 w2) := ⟨⟨q2.os, q2.tape, q2.output, q2.size, q2.block⟩⟩
 clear q1 q2 hdr hbase
 refine hK _ _ HBK.out ?_
 clear hK K
 refine wpKept_next (fun K hK => ?_)
 go_simp
 refine (u8_a H.out 4 (by omega) (by simp only [List.length_append, List.length_nil, be_len]; omega)).mono ?_
 rintro e w3 ⟨rfl, q1, q2⟩
 have HBK : As (w3.heap[b]? = some (.cells #[.int .i64 4, .int .u64 l, .int .u32 1, .int .u32 o, .int .i64 s, .bool u, .int .i64 t, .int .i64 c, .int .u64 0, .slice ak 0 ck, .slice ad 0 cd] 41 (0, 0))) := ⟨(q2.block b hlt).trans HBK.out⟩
 have H := As.mk q1
 have B2 := As.mk (B2.out.trans q2)
 clear q1 q2
 refine hK _ _ HBK.out ?_
 clear hK K
 refine wpKept_next (fun K hK => ?_)
 go_simp
 refine (u64_a H.out l (by omega) (by simp only [List.length_append, List.length_nil, be_len]; omega)).mono ?_
 rintro e w4 ⟨rfl, q1, q2⟩
 have HBK : As (w4.heap[b]? = some (.cells #[.int .i64 4, .int .u64 l, .int .u32 1, .int .u32 o, .int .i64 s, .bool u, .int .i64 t, .int .i64 c, .int .u64 0, .slice ak 0 ck, .slice ad 0 cd] 41 (0, 0))) := ⟨(q2.block b hlt).trans HBK.out⟩
 have H := As.mk q1
 have B2 := As.mk (B2.out.trans q2)
 clear q1 q2
 refine hK _ _ HBK.out ?_
 clear hK K
 refine wpKept_next (fun K hK => ?_)
 go_simp
 refine (u32_a H.out 1 (by omega) (by simp only [List.length_append, List.length_nil, be_len]; omega)).mono ?_
 rintro e w5 ⟨rfl, q1, q2⟩
 have HBK : As (w5.heap[b]? = some (.cells #[.int .i64 4, .int .u64 l, .int .u32 1, .int .u32 o, .int .i64 s, .bool u, .int .i64 t, .int .i64 c, .int .u64 0, .slice ak 0 ck, .slice ad 0 cd] 41 (0, 0))) := ⟨(q2.block b hlt).trans HBK.out⟩
 have H := As.mk q1
 have B2 := As.mk (B2.out.trans q2)
 clear q1 q2
 refine hK _ _ HBK.out ?_
 clear hK K
 refine wpKept_next (fun K hK => ?_)
 go_simp
 refine hK _ _ HBK.out ?_
 clear hK K
 refine wpKept_nil ?_
 have HBK := HBK
 obtain ⟨k0, k1, k2, k3, k4, k5, k6, k7, k8, k9, k10⟩ := cells11 HBK.out
 go_upto_region 11 with fail
 have H := As.mk H.out.drew
 have B2 := As.mk B2.out.drew
 refine wp_region_plan_kept (fun w' => w'.heap[b]? = some (.cells #[.int .i64 4, .int .u64 l, .int .u32 1, .int .u32 o, .int .i64 s, .bool u, .int .i64 t, .int .i64 c, .int .u64 0, .slice ak 0 ck, .slice ad 0 cd] 41 (0, 0))) [(1,0),(1,1),(0,2),(1,4),(0,5),(1,6),(1,8),(0,9),(1,12),(0,13),(1,14),(1,16),(0,17),(1,18),(2,3),(2,7),(2,10),(2,11),(2,15),(2,19)] (by kernel_rfl) (by kernel_rfl) (by kernel_rfl) (by kernel_rfl) (fun _ _ _ _ _ h => h) HBK.out ?_
 simp only [tagged, List.filterMap_cons, List.filterMap_nil, List.getElem?_toArray, List.getElem?_cons_succ, List.getElem?_cons_zero, Option.map_some]
 clear k0 k1 k2 k3 k4 k5 k6 k7 k8 k9 k10
 refine wpKept_sure (fun K hK => ?_); go_simp; refine hK _ ?_; clear hK K
 refine wpKept_sure (fun K hK => ?_); go_simp; refine hK _ ?_; clear hK K
 refine wpKept_take (fun K hK => ?_)
 rw [if_pos (by rfl)]
 apply Exists.intro
 refine ⟨fun w' hw' => ?_, hK _ ?_⟩
 ·obtain ⟨k0, k1, k2, k3, k4, k5, k6, k7, k8, k9, k10⟩ := cells11 hw'
  go_simp
  rfl
 clear hK K
 refine wpKept_sure (fun K hK => ?_); go_simp; refine hK _ ?_; clear hK K
 refine wpKept_take (fun K hK => ?_)
 rw [if_pos (by rfl)]
 apply Exists.intro
 refine ⟨fun w' hw' => ?_, hK _ ?_⟩
 ·obtain ⟨k0, k1, k2, k3, k4, k5, k6, k7, k8, k9, k10⟩ := cells11 hw'
  go_simp
  rfl
 clear hK K
 refine wpKept_sure (fun K hK => ?_); go_simp; refine hK _ ?_; clear hK K
 refine wpKept_sure (fun K hK => ?_); go_simp; refine hK _ ?_; clear hK K
 refine wpKept_take (fun K hK => ?_)
 rw [if_pos (by rfl)]
 apply Exists.intro
 refine ⟨fun w' hw' => ?_, hK _ ?_⟩
 ·obtain ⟨k0, k1, k2, k3, k4, k5, k6, k7, k8, k9, k10⟩ := cells11 hw'
  go_simp
  rfl
 clear hK K
 refine wpKept_sure (fun K hK => ?_); go_simp; refine hK _ ?_; clear hK K
 refine wpKept_take (fun K hK => ?_)
 rw [if_pos (by rfl)]
 apply Exists.intro
 refine ⟨fun w' hw' => ?_, hK _ ?_⟩
 ·obtain ⟨k0, k1, k2, k3, k4, k5, k6, k7, k8, k9, k10⟩ := cells11 hw'
  go_simp
  rfl
 clear hK K
 refine wpKept_sure (fun K hK => ?_); go_simp; refine hK _ ?_; clear hK K
 refine wpKept_sure (fun K hK => ?_); go_simp; refine hK _ ?_; clear hK K
 refine wpKept_take (fun K hK => ?_)
 rw [if_pos (by rfl)]
 apply Exists.intro
 refine ⟨fun w' hw' => ?_, hK _ ?_⟩
 ·obtain ⟨k0, k1, k2, k3, k4, k5, k6, k7, k8, k9, k10⟩ := cells11 hw'
  go_simp
  rfl
 clear hK K
 refine wpKept_sure (fun K hK => ?_); go_simp; refine hK _ ?_; clear hK K
 refine wpKept_next (fun K hK => ?_)
 go_simp
 refine (u32_a H.out o (by omega) (by simp only [List.length_append, List.length_nil, be_len]; omega)).mono ?_
 rintro e w6 ⟨rfl, q1, q2⟩
 have HBK : As (w6.heap[b]? = some (.cells #[.int .i64 4, .int .u64 l, .int .u32 1, .int .u32 o, .int .i64 s, .bool u, .int .i64 t, .int .i64 c, .int .u64 0, .slice ak 0 ck, .slice ad 0 cd] 41 (0, 0))) := ⟨(q2.block b hlt).trans HBK.out⟩
 have H := As.mk q1
 have B2 := As.mk (B2.out.trans q2)
 clear q1 q2
 refine hK _ _ HBK.out ?_
 clear hK K
 refine wpKept_next (fun K hK => ?_)
 go_simp
 refine (u8_a H.out s (by omega) (by simp only [List.length_append, List.length_nil, be_len]; omega)).mono ?_
 rintro e w7 ⟨rfl, q1, q2⟩
 have HBK : As (w7.heap[b]? = some (.cells #[.int .i64 4, .int .u64 l, .int .u32 1, .int .u32 o, .int .i64 s, .bool u, .int .i64 t, .int .i64 c, .int .u64 0, .slice ak 0 ck, .slice ad 0 cd] 41 (0, 0))) := ⟨(q2.block b hlt).trans HBK.out⟩
 have H := As.mk q1
 have B2 := As.mk (B2.out.trans q2)
 clear q1 q2
 refine hK _ _ HBK.out ?_
 clear hK K
 refine wpKept_next (fun K hK => ?_)
 go_simp
 refine (bit_a u _).mono ?_
 rintro e wx ⟨rfl, rfl⟩
 refine hK _ _ HBK.out ?_
 clear hK K
 refine wpKept_next (fun K hK => ?_)
 go_simp
 refine (u8_a H.out (bitF u) (bitF_range u) (by simp only [List.length_append, List.length_nil, be_len]; omega)).mono ?_
 rintro e w8 ⟨rfl, q1, q2⟩
 have HBK : As (w8.heap[b]? = some (.cells #[.int .i64 4, .int .u64 l, .int .u32 1, .int .u32 o, .int .i64 s, .bool u, .int .i64 t, .int .i64 c, .int .u64 0, .slice ak 0 ck, .slice ad 0 cd] 41 (0, 0))) := ⟨(q2.block b hlt).trans HBK.out⟩
 have H := As.mk q1
 have B2 := As.mk (B2.out.trans q2)
 clear q1 q2
 refine hK _ _ HBK.out ?_
 clear hK K
 refine wpKept_next (fun K hK => ?_)
 go_simp
 refine (u8_a H.out t (by omega) (by simp only [List.length_append, List.length_nil, be_len]; omega)).mono ?_
 rintro e w9 ⟨rfl, q1, q2⟩
 have HBK : As (w9.heap[b]? = some (.cells #[.int .i64 4, .int .u64 l, .int .u32 1, .int .u32 o, .int .i64 s, .bool u, .int .i64 t, .int .i64 c, .int .u64 0, .slice ak 0 ck, .slice ad 0 cd] 41 (0, 0))) := ⟨(q2.block b hlt).trans HBK.out⟩
 have H := As.mk q1
 have B2 := As.mk (B2.out.trans q2)
 clear q1 q2
 refine hK _ _ HBK.out ?_
 clear hK K
 refine wpKept_next (fun K hK => ?_)
 go_simp
 refine (u8_a H.out c (by omega) (by simp only [List.length_append, List.length_nil, be_len]; omega)).mono ?_
 rintro e w10 ⟨rfl, q1, q2⟩
 have HBK : As (w10.heap[b]? = some (.cells #[.int .i64 4, .int .u64 l, .int .u32 1, .int .u32 o, .int .i64 s, .bool u, .int .i64 t, .int .i64 c, .int .u64 0, .slice ak 0 ck, .slice ad 0 cd] 41 (0, 0))) := ⟨(q2.block b hlt).trans HBK.out⟩
 have H := As.mk q1
 have B2 := As.mk (B2.out.trans q2)
 clear q1 q2
 refine hK _ _ HBK.out ?_
 clear hK K
 refine wpKept_nil ?_
 have hbts : As ([] ++ be 4 1 ++ be l 8 ++ be 1 4 ++ be o 4 ++ be s 1 ++ be (bitF u) 1 ++ be t 1 ++ be c 1 = be 4 1 ++ be l 8 ++ be 1 4 ++ be o 4 ++ be s 1 ++ be (bitF u) 1 ++ be t 1 ++ be c 1) := ⟨by simp only [List.nil_append]⟩
 have hlen : As ((be 4 1 ++ be l 8 ++ be 1 4 ++ be o 4 ++ be s 1 ++ be (bitF u) 1 ++ be t 1 ++ be c 1).length = 21) := ⟨by simp only [List.length_append, be_len]⟩
 have HX := H.out
 rw [hbts.out] at HX
 obtain ⟨x, hx⟩ : ∃ x, x = be 4 1 ++ be l 8 ++ be 1 4 ++ be o 4 ++ be s 1 ++ be (bitF u) 1 ++ be t 1 ++ be c 1 := ⟨_, rfl⟩
 have HXE := As.mk hx
 rw [← hx] at HX
 have hxl : x.length = 21 := by rw [hx]; exact hlen.out
 have HX := As.mk HX
 have HXL := As.mk hxl
 clear hx hxl hbts H
 go_wp2_with fail
 refine (done_a HX.out (by rw [HXL.out]; omega) (by rw [HXL.out]; omega)).mono ?_
 rintro e wz ⟨v, rfl, q1, q2⟩
 have Q1 := As.mk q1
 have Q2 := As.mk q2
 clear q1 q2
 go_wp2_with fail
 go_ret2
 have hb2 : Below b w1 w10 := B2.out.mono (by omega)
 have hsz := hb2.size
 refine ⟨v, rfl, ?_, ?_⟩
 ·rw [HBe.out, ← HXE.out, ← HXL.out]
  obtain ⟨a1, a2⟩ := Q1.out
  refine ⟨a1, ?_⟩
  rcases a2 with a2 | ⟨g', cp, cur, e, b1, b2⟩
  ·exact .inl a2
  ·exact .inr ⟨g', cp, cur, e, by omega, b2⟩
 ·rw [HBe.out]
  exact B1.out.trans (hb2.trans (Q2.out.mono (by omega)))
end Go.Proofs.YthfjhgdiakciaaaGreat.Bl
