/- The same entries (Same). Condition: they lie in memory as they are told. -/
import Derived.Test.YthfjhgdiakciaaaGreatM14
namespace Go.Proofs.YthfjhgdiakciaaaGreat.Bl
open Go.RowKit
set_option linter.unusedVariables false
set_option linter.unusedSimpArgs false
set_option maxHeartbeats 4000000 in
set_option maxRecDepth 100000 in
theorem same_l {W : World} {kd ls od st tr co : Int} {u : Bool} {key data : List Int} {ak ad ak' ad' : Option Addr} {ck cd ck' cd' : Nat} (hk : Bytes W ak key) (hd : Bytes W ad data) (hk' : Bytes W ak' key) (hd' : Bytes W ad' data) :
  Calls Tryz.prog 62 #[.agg #[.int .i64 kd, .int .u64 ls, .int .u32 1, .int .u32 od, .int .i64 st, .bool u, .int .i64 tr, .int .i64 co, .int .u64 0, .slice ak key.length ck, .slice ad data.length cd], .agg #[.int .i64 kd, .int .u64 ls, .int .u32 1, .int .u32 od, .int .i64 st, .bool u, .int .i64 tr, .int .i64 co, .int .u64 0, .slice ak' key.length ck', .slice ad' data.length cd']] W fun e W' => e = .returned (.bool true) ∧ Below W.heap.size W W' := by
 have hB : ∀ o1 o2, Below W.heap.size W ((W.alloc o1).alloc o2) := fun o1 o2 => ((Below.refl _ W).alloc (Nat.le_refl _) o1).alloc (by simp) o2
 have HB := As.mk hB
 have v1 : ∀ o1 o2, (convert 39 9 (.slice ak key.length ck)).run Tryz.prog ((W.alloc o1).alloc o2) = .ok (.string (strOfNums key)) ((W.alloc o1).alloc o2) := fun o1 o2 => conv_bytes (hk.below (hB o1 o2) (Nat.le_refl _)) ck
 have v2 : ∀ o1 o2, (convert 39 9 (.slice ak' key.length ck')).run Tryz.prog ((W.alloc o1).alloc o2) = .ok (.string (strOfNums key)) ((W.alloc o1).alloc o2) := fun o1 o2 => conv_bytes (hk'.below (hB o1 o2) (Nat.le_refl _)) ck'
 have v3 : ∀ o1 o2, (convert 39 9 (.slice ad data.length cd)).run Tryz.prog ((W.alloc o1).alloc o2) = .ok (.string (strOfNums data)) ((W.alloc o1).alloc o2) := fun o1 o2 => conv_bytes (hd.below (hB o1 o2) (Nat.le_refl _)) cd
 have v4 : ∀ o1 o2, (convert 39 9 (.slice ad' data.length cd')).run Tryz.prog ((W.alloc o1).alloc o2) = .ok (.string (strOfNums data)) ((W.alloc o1).alloc o2) := fun o1 o2 => conv_bytes (hd'.below (hB o1 o2) (Nat.le_refl _)) cd'
 clear hk hd hk' hd' hB
 generalize key.length = n1 at *
 generalize data.length = n2 at *
 generalize strOfNums key = s1 at *
 generalize strOfNums data = s2 at *
 go_enter Tryz.func62, Tryz.ntmps62
 go_wp2_with fail
 go_ret
 exact ⟨rfl, HB.out _ _⟩
end Go.Proofs.YthfjhgdiakciaaaGreat.Bl
/- The fields of an entry that count (drayageref04.plain): an entry that holds no others comes back. -/
namespace Go.Proofs.YthfjhgdiakciaaaGreat.Bl
open Go.RowKit
set_option linter.unusedVariables false
set_option linter.unusedSimpArgs false
set_option maxHeartbeats 4000000 in
set_option maxRecDepth 100000 in
theorem plain2_a (l o : Int) (u : Bool) (ak ad : Option Addr) (nk ck nd cd : Nat) (W : World) :
  Calls Tryz.prog 126 #[.agg #[.int .i64 2, .int .u64 l, .int .u32 1, .int .u32 o, .int .i64 0, .bool false, .int .i64 0, .int .i64 0, .int .u64 0, .slice ak nk ck, .slice ad nd cd]] W fun e W' => e = .returned (.agg #[.int .i64 2, .int .u64 l, .int .u32 1, .int .u32 o, .int .i64 0, .bool false, .int .i64 0, .int .i64 0, .int .u64 0, .slice ak nk ck, .slice ad nd cd]) ∧ Below W.heap.size W W' := by
 go_enter Tryz.func126, Tryz.ntmps126
 go_wp2_with fail
 refine bodyPost_ret (results_cell_row rfl _ _ (W.heap.size + 1) 41 #[.int .i64 2, .int .u64 l, .int .u32 1, .int .u32 o, .int .i64 0, .bool false, .int .i64 0, .int .i64 0, .int .u64 0, .slice ak nk ck, .slice ad nd cd] (0, 0) _ rfl ?_ Tryz.underlying41 rfl size41) rfl ?_
 ·exact blk_old (heap_alloc2_new W _ _) _
 ·exact ⟨rfl, (((Below.refl _ _).alloc (Nat.le_refl _) _).alloc (by simp) _).alloc (by simp; omega) _⟩
set_option maxHeartbeats 4000000 in
set_option maxRecDepth 100000 in
theorem plain3_a (l o s t : Int) (u : Bool) (ak ad : Option Addr) (nk ck nd cd : Nat) (W : World) :
  Calls Tryz.prog 126 #[.agg #[.int .i64 3, .int .u64 l, .int .u32 1, .int .u32 o, .int .i64 s, .bool u, .int .i64 t, .int .i64 0, .int .u64 0, .slice ak nk ck, .slice ad nd cd]] W fun e W' => e = .returned (.agg #[.int .i64 3, .int .u64 l, .int .u32 1, .int .u32 o, .int .i64 s, .bool u, .int .i64 t, .int .i64 0, .int .u64 0, .slice none 0 0, .slice none 0 0]) ∧ Below W.heap.size W W' := by
 go_enter Tryz.func126, Tryz.ntmps126
 go_wp2_with fail
 refine bodyPost_ret (results_cell_row rfl _ _ (W.heap.size + 1) 41 #[.int .i64 3, .int .u64 l, .int .u32 1, .int .u32 o, .int .i64 s, .bool u, .int .i64 t, .int .i64 0, .int .u64 0, .slice none 0 0, .slice none 0 0] (0, 0) _ rfl ?_ Tryz.underlying41 rfl size41) rfl ?_
 ·exact blk_old (heap_alloc2_new W _ _) _
 ·exact ⟨rfl, (((Below.refl _ _).alloc (Nat.le_refl _) _).alloc (by simp) _).alloc (by simp; omega) _⟩
set_option maxHeartbeats 4000000 in
set_option maxRecDepth 100000 in
theorem plain4_a (l o s t c : Int) (u : Bool) (ak ad : Option Addr) (nk ck nd cd : Nat) (W : World) :
  Calls Tryz.prog 126 #[.agg #[.int .i64 4, .int .u64 l, .int .u32 1, .int .u32 o, .int .i64 s, .bool u, .int .i64 t, .int .i64 c, .int .u64 0, .slice ak nk ck, .slice ad nd cd]] W fun e W' => e = .returned (.agg #[.int .i64 4, .int .u64 l, .int .u32 1, .int .u32 o, .int .i64 s, .bool u, .int .i64 t, .int .i64 c, .int .u64 0, .slice none 0 0, .slice none 0 0]) ∧ Below W.heap.size W W' := by
 go_enter Tryz.func126, Tryz.ntmps126
 go_wp2_with fail
 refine bodyPost_ret (results_cell_row rfl _ _ (W.heap.size + 1) 41 #[.int .i64 4, .int .u64 l, .int .u32 1, .int .u32 o, .int .i64 s, .bool u, .int .i64 t, .int .i64 c, .int .u64 0, .slice none 0 0, .slice none 0 0] (0, 0) _ rfl ?_ Tryz.underlying41 rfl size41) rfl ?_
 ·exact blk_old (heap_alloc2_new W _ _) _
 ·exact ⟨rfl, (((Below.refl _ _).alloc (Nat.le_refl _) _).alloc (by simp) _).alloc (by simp; omega) _⟩
end Go.Proofs.YthfjhgdiakciaaaGreat.Bl
/- Append to a row of fields (type 218), whatever they hold. -/
namespace Go.Proofs.YthfjhgdiakciaaaGreat.Bl
open Go.RowKit
set_option linter.unusedVariables false
set_option linter.unusedSimpArgs false
theorem info223 : (Tryz.prog.info? 223).map (fun i => (i.zero, i.size, i.bytes)) = some (some (.agg #[.int .i64 0, .int .u64 0, .slice none 0 0]), 3, 40) := by kernel_rfl
theorem wpList_append_fields {ops : Array Oper} {rest : List Oper} {o : Oper} {a : Act} {w : World} {Q : Exit → Act → World → Prop} (hgd : o.guard = none) (s x : Operand)
  (ho : o.op = .call { callee := .builtin .append, args := #[s, x], argTypes := #[218, 218] }) (base g0 n c0 : Nat) (xs : List Value) (hs : a.eval s = .slice (some ⟨g0, 0, none⟩) n c0) (hown : w.ownsRow base 223 3 (.slice (some ⟨g0, 0, none⟩) n c0) n xs)
  (q m c : Nat) (ys : List Value) (hx : a.eval x = .slice (some ⟨q, 0, none⟩) m c) (hq : w.heap[q]? = some (.cells ys.toArray 223 (0, 0))) (hl : ys.length = m * 3) (h1 : ∀ u ∈ ys, u.oneCell' = true) (hm : 0 < m) (hm2 : m ≤ 10) (hn : n ≤ 100) (hb : base ≤ w.heap.size)
  (h : ∀ g cap w' zs, w'.ownsRow base 223 3 (.slice (some ⟨g, 0, none⟩) (n + m) cap) (n + m) zs → Below base w w' → wpList Tryz.prog ops Q rest (a.put o.dst (.slice (some ⟨g, 0, none⟩) (n + m) cap)) w') :
  wpList Tryz.prog ops Q (o :: rest) a w := by
 obtain ⟨i0, hi0, hz0, hz1, hz2⟩ := info_parts info223
 have hg0 : base ≤ g0 := by
  rcases hown.2 with ⟨h, _⟩ | ⟨g, _, _, h, hg, _⟩
  ·cases h
  ·injection h with h; injection h with h; injection h with h; omega
 refine wpList_append_lies _ hgd s x 218 ho base 223 i0 _ 3 40 Tryz.underlying218 hi0 hz0 hz1 hz2 rfl (by omega) _ _ _ hs hown ⟨q, 0, none⟩ m c ys hx hl (World.news_of_block hq) h1 hm (by unfold maxLen; omega) (by omega) hb w.heap.size rfl ?_
 intro g cap w' h1 h2 h3 h4
 exact h g cap w' _ h1 ((Below.refl base w).grown h2 hb (fun k hk => by rw [← ob_eq hk]; exact hg0))
end Go.Proofs.YthfjhgdiakciaaaGreat.Bl
/- The fields of an entry, one by one (drayageref04.fields). -/
namespace Go.Proofs.YthfjhgdiakciaaaGreat.Bl
open Go.RowKit
set_option linter.unusedVariables false
set_option linter.unusedSimpArgs false
def FieldsOk (W W' : World) (e : Ending) : Prop := ∃ v, e = .returned (.tuple #[v, .bool true]) ∧ Below W.heap.size W W'
theorem own_two (w : World) (cs : Array Value) (base g : Nat) (hg : g = w.heap.size) (hb : base ≤ w.heap.size) (hs : cs.size = 3 * 3) (C D : Obj) : (((w.alloc (.cells cs 223)).alloc C).alloc D).ownsRow base 223 3 (.slice (some ⟨g, 0, none⟩) 3 3) 3 cs.toList := by
 subst hg
 have h := World.ownsRow_lit (base := base) (e := 223) (size := 3) w cs 3 hb (by unfold maxLen; omega) hs
 refine own_keep h (fun g hg hl => ?_)
 rw [Below.heap_alloc _ _ _ (by simp at hl ⊢; omega), Below.heap_alloc _ _ _ hl]
theorem blk_at (w : World) (x : Obj) (q : Nat) (h : q = w.heap.size) : (w.alloc x).heap[q]? = some x := by rw [h]; exact blk_new w x
set_option maxHeartbeats 4000000 in
set_option maxRecDepth 100000 in
theorem fields3_a (l o s t : Int) (u : Bool) (ak ad : Option Addr) (nk ck nd cd : Nat) (hl : 1 ≤ l ∧ l < 1000000) (ho : 1 ≤ o ∧ o < 1000000) (hs : 0 ≤ s ∧ s < 16) (ht : 1 ≤ t ∧ t ≤ 255) (W : World) :
  Calls Tryz.prog 125 #[.agg #[.int .i64 3, .int .u64 l, .int .u32 1, .int .u32 o, .int .i64 s, .bool u, .int .i64 t, .int .i64 0, .int .u64 0, .slice ak nk ck, .slice ad nd cd]] W fun e W' => FieldsOk W W' e := by
 have e1 : decide (1 ≤ o) = true := by simp; omega
 have e2 : decide (0 ≤ s) = true := by simp; omega
 have e3 : decide (s ≤ 15) = true := by simp; omega
 have e4 : decide (1 ≤ t) = true := by simp; omega
 have e5 : decide (t ≤ 255) = true := by simp; omega
 clear hl ho hs ht
 have HB : ∀ a b c d, Below W.heap.size W ((((W.alloc a).alloc b).alloc c).alloc d) := fun a b c d => ((((Below.refl _ W).alloc (Nat.le_refl _) a).alloc (by simp) b).alloc (by simp; omega) c).alloc (by simp; omega) d
 have HBa := As.mk HB
 clear HB
 have HX : ∀ cs b c d, ((((W.alloc (.cells cs 41)).alloc b).alloc c).alloc d).heap[W.heap.size]? = some (.cells cs 41 (0, 0)) := fun cs b c d => blk_old (blk_old (blk_old (blk_new W _) b) c) d
 have HXa := As.mk HX
 clear HX
 cases u
 all_goals
  go_enter Tryz.func125, Tryz.ntmps125
  go_wp2_with ((at_builtin; refine wpList_append_fields rfl _ _ rfl (W.heap.size + 1) (W.heap.size + 1) 3 3 _ rfl (own_two (W.alloc _) _ _ _ (by simp) (by simp) rfl _ _) (W.heap.size + 1 + 1 + 1) 4 4 _ rfl (blk_at _ _ _ (by simp)) rfl ?_ (by omega) (by omega) (by omega) (by simp <;> omega) ?_))
  ·intro v hv
   simp only [List.mem_cons, List.not_mem_nil, or_false] at hv
   rcases hv with h | h | h | h | h | h | h | h | h | h | h | h <;> (rw [h]; rfl)
  intro g cap w1 zs h1 h2
  have B1 := As.mk ((HBa.out _ _ _ _).trans (h2.mono (by omega)))
  have hbk := (h2.block W.heap.size (by omega)).trans (HXa.out _ _ _ _)
  obtain ⟨k0, k1, k2, k3, k4, k5, k6, k7, k8, k9, k10⟩ := cells11 hbk
  clear h1 h2 hbk
  generalize hb : W.heap.size = b at *
  have HBe := As.mk hb
  clear hb HBa HXa
  go_wp2_with fail
  go_ret2
  exact ⟨_, rfl, by rw [HBe.out]; exact B1.out⟩
end Go.Proofs.YthfjhgdiakciaaaGreat.Bl
