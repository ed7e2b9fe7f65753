/- An entry comes (ledger.Apply): what the ledger is behind it. Condition: the ledger lies in memory as it is told; the entry is one that may come, or an order whose key is there. -/
import Derived.Test.YthfjhgdiakciaaaGreatM17
namespace Go.Proofs.YthfjhgdiakciaaaGreat.Bl
open Go.RowKit Go.Maps
set_option linter.unusedVariables false
set_option linter.unusedSimpArgs false
theorem putAt_left (x y vs : List Value) (j : Nat) (h : j + vs.length ≤ x.length) : putAt (x ++ y) j vs = putAt x j vs ++ y := by
 apply List.ext_getElem?
 intro i
 rw [putAt_get, List.length_append, List.getElem?_append (l₁ := x) (l₂ := y), List.getElem?_append (l₁ := putAt x j vs), putAt_len, putAt_get]
 by_cases hi : i < x.length
 ·by_cases h2 : j ≤ i ∧ i < j + vs.length
  ·rw [if_pos ⟨h2.1, h2.2, by omega⟩, if_pos hi, if_pos ⟨h2.1, h2.2, hi⟩]
  ·rw [if_neg (by omega), if_pos hi, if_pos hi, if_neg (by omega)]
 ·rw [if_neg (by omega), if_neg hi, if_neg hi]
theorem putAt_right (x y vs : List Value) (j : Nat) : putAt (x ++ y) (x.length + j) vs = x ++ putAt y j vs := by
 apply List.ext_getElem?
 intro i
 rw [putAt_get, List.length_append, List.getElem?_append (l₁ := x) (l₂ := y), List.getElem?_append (l₁ := x) (l₂ := putAt y j vs), putAt_get]
 by_cases hi : i < x.length
 ·rw [if_neg (by omega), if_pos hi, if_pos hi]
 ·rw [if_neg hi, if_neg hi]
  by_cases h2 : x.length + j ≤ i ∧ i < x.length + j + vs.length ∧ i < x.length + y.length
  ·rw [if_pos h2, if_pos (by omega)]
   congr 1
   omega
  ·rw [if_neg h2, if_neg (by omega)]
theorem flatten_put {k : Nat} : ∀ (cs : List (List Value)) (i j : Nat) (vs x : List Value), (∀ y ∈ cs, y.length = k) → cs[i]? = some x → j + vs.length ≤ k → putAt cs.flatten (i * k + j) vs = (cs.set i (putAt x j vs)).flatten
 | [], i, j, vs, x, _, h, _ => by simp at h
 | y :: L, 0, j, vs, x, h, hx, hj => by
  obtain rfl : y = x := by simpa using hx
  rw [Nat.zero_mul, Nat.zero_add, List.flatten_cons, List.set_cons_zero, List.flatten_cons, putAt_left _ _ _ _ (by rw [h y List.mem_cons_self]; exact hj)]
 | y :: L, i + 1, j, vs, x, h, hx, hj => by
  have hy := h y List.mem_cons_self
  rw [List.flatten_cons, List.set_cons_succ, List.flatten_cons, ← flatten_put L i j vs x (fun z hz => h z (List.mem_cons_of_mem _ hz)) (by simpa using hx) hj, ← putAt_right, hy]
  congr 1
  rw [Nat.succ_mul]
  omega
theorem OrAt.len {W : World} {own : Nat → Prop} {tl : List Value} {n : Nat} {o : Or} {c : List Value} (h : OrAt W own tl n o c) : c.length = 10 + tl.length := by
 obtain ⟨_, _, _, _, rfl, _⟩ := h
 simp [orC]; omega
/-- An order's state is another one. -/
theorem OrsAt.setSg {w : World} {own : Nat → Prop} {T sz : Nat} {tl : List Value} {g n c : Nat} {l : List Or} (hsz : sz = 10 + tl.length) (h : OrsAt w own T sz tl (.slice (some ⟨g, 0, none⟩) n c) l) (hn : l.length = n) {i : Nat} {o : Or} (ho : l[i]? = some o) (s : Sg) :
  OrsAt (w.setCells g (i * sz + 3) (sgC s)) own T sz tl (.slice (some ⟨g, 0, none⟩) n c) (l.set i { o with sg := s }) := by
 subst hn
 obtain ⟨cs, h1, h2, h3, h4⟩ := h
 obtain ⟨x, a, b⟩ := h4 i o ho
 have hall : ∀ y ∈ cs, y.length = sz := fun y hy => by
  obtain ⟨j, hj, rfl⟩ := List.getElem_of_mem hy
  obtain ⟨c', a', b'⟩ := h4 j (l[j]'(by omega)) (List.getElem?_eq_getElem (by omega))
  rw [List.getElem?_eq_getElem hj] at a'
  injection a' with a'
  rw [a', hsz]; exact b'.len
 have hil := (List.getElem?_eq_some_iff.1 ho).1
 have key : ∀ {j : Nat} {z : Or} {y : List Value}, OrAt w (fun k => own k ∧ ¬ (Value.slice (some ⟨g, 0, none⟩) l.length c).ownBlock = some k) tl j z y → OrAt (w.setCells g (i * sz + 3) (sgC s)) (fun k => own k ∧ ¬ (Value.slice (some ⟨g, 0, none⟩) l.length c).ownBlock = some k) tl j z y := fun hz =>
  hz.keep (fun k hk _ => setCells_far _ _ _ _ (fun e => hk.2 (by rw [e]; rfl))) (by rw [setCells_size]; exact Nat.le_refl _)
 refine ⟨cs.set i (putAt x 3 (sgC s)), by simp [h1], ?_, h3, fun j z hz => ?_⟩
 ·rw [List.length_set, ← flatten_put cs i 3 (sgC s) x hall a (by rw [hsz]; show 3 + 7 ≤ _; omega)]
  exact own_put _ _ _ _ h2
 ·by_cases hij : i = j
  ·subst hij
   rw [List.getElem?_set_self hil] at hz
   obtain rfl := Option.some.inj hz
   refine ⟨putAt x 3 (sgC s), List.getElem?_set_self (by omega), ?_⟩
   obtain ⟨ak, ck, ad, cd, rfl, e1, e2, e3, e4⟩ := key b
   exact ⟨ak, ck, ad, cd, rfl, e1, e2, e3, e4⟩
  ·rw [List.getElem?_set_ne hij] at hz
   obtain ⟨y, a', b'⟩ := h4 j z hz
   exact ⟨y, by rw [List.getElem?_set_ne hij]; exact a', key b'⟩
/-- One entry, of a ledger's orders. -/
inductive Step (ps : List (List Stp)) (l : List Or) (e : Ent) : List Or → Prop
 | order (k d : Nat) : e.kind = 2 → e.order = (l.length : Int) + 1 → e.key = [(k : Int)] → e.data = [(d : Int)] → k < 256 → d < ps.length → (∀ o ∈ l, o.key ≠ k) → Step ps l e (l ++ [⟨k, d, startS⟩])
 | intent (i : Nat) (o : Or) (dn : Dn) : e.kind = 3 → e.order = (i : Int) + 1 → l[i]? = some o → nextS o.sg = some dn → e.step = dn.st → e.undo = dn.undo → e.tr = dn.tr → Step ps l e (l.set i { o with sg := askS o.sg })
 | result (i : Nat) (o : Or) (p : List Stp) (code : Nat) : e.kind = 4 → e.order = (i : Int) + 1 → l[i]? = some o → o.sg.asked = true → ps[o.pl]? = some p → e.step = o.sg.st → e.undo = (o.sg.ph == 2) → e.tr = o.sg.tr → e.code = code → (code = 1 ∨ code = 2 ∨ code = 3) → Step ps l e (l.set i { o with sg := tellS p o.sg code })
/-- The orders may be. -/
structure LOk (ps : List (List Stp)) (l : List Or) : Prop where
 ok : ∀ o ∈ l, o.key < 256 ∧ ∃ p, ps[o.pl]? = some p ∧ SgOk p o.sg
 len : l.length < 500
structure PsOk (ps : List (List Stp)) : Prop where
 len : ps.length ≤ 8
 ok : ∀ p ∈ ps, PlanOk p
theorem LOk.at {ps : List (List Stp)} {l : List Or} (h : LOk ps l) {i : Nat} {o : Or} (ho : l[i]? = some o) : ∃ p, ps[o.pl]? = some p ∧ SgOk p o.sg := (h.ok o (List.mem_of_getElem? ho)).2
theorem LOk.set {ps : List (List Stp)} {l : List Or} (h : LOk ps l) {i : Nat} {o : Or} (ho : l[i]? = some o) {p : List Stp} (hp : ps[o.pl]? = some p) {s : Sg} (hs : SgOk p s) : LOk ps (l.set i { o with sg := s }) :=
 ⟨fun x hx => by
  rcases List.mem_or_eq_of_mem_set hx with hx | rfl
  ·exact h.ok x hx
  ·exact ⟨(h.ok o (List.mem_of_getElem? ho)).1, p, hp, hs⟩, by rw [List.length_set]; exact h.len⟩
theorem Step.ok {ps : List (List Stp)} {l l' : List Or} {e : Ent} (hp : PsOk ps) (h : LOk ps l) (hl : l.length < 499) (hs : Step ps l e l') : LOk ps l' := by
 cases hs with
 | order k d h1 h2 h3 h4 h5 h6 h7 =>
  refine ⟨fun x hx => ?_, by simp; omega⟩
  rcases List.mem_append.1 hx with hx | hx
  ·exact h.ok x hx
  ·rw [List.mem_singleton.1 hx]
   have hq := hp.ok _ (List.getElem_mem h6)
   exact ⟨h5, _, List.getElem?_eq_getElem h6, .idle 1 0 0 _ (List.getElem?_eq_getElem (show 0 < _ from hq.l1)) (.inl rfl) (by omega)⟩
 | intent i o dn h1 h2 h3 h4 =>
  obtain ⟨p, hp, hs⟩ := h.at h3
  exact h.set h3 hp (askS_ok hs h4)
 | result i o p code h1 h2 h3 h4 h5 =>
  obtain ⟨p', hp', hs⟩ := h.at h3
  obtain rfl : p' = p := by rw [h5] at hp'; exact (Option.some.inj hp').symm
  have hl1 := (hp.ok p' (List.mem_of_getElem? h5)).l1
  refine h.set h3 h5 ?_
  generalize o.sg = s at *
  cases hs with
  | over c a b => cases h4
  | idle ph st tr x a b c => cases h4
  | wait ph st tr x a b c d => exact tellS_ok a b c d hl1
theorem keysAre_set {D : DataW Unit} {l : List Or} (h : KeysAre D l) {i : Nat} {o : Or} (ho : l[i]? = some o) (s : Sg) : KeysAre D (l.set i { o with sg := s }) := by
 intro k hk
 rw [h k hk]
 congr 1
 apply propext
 have hil := (List.getElem?_eq_some_iff.1 ho).1
 constructor
 ·rintro ⟨x, hx, hh⟩
  obtain ⟨j, hj, rfl⟩ := List.getElem_of_mem hx
  by_cases hij : i = j
  ·subst hij
   refine ⟨{ o with sg := s }, List.mem_of_getElem? (List.getElem?_set_self hil), ?_⟩
   rw [List.getElem?_eq_getElem hj] at ho
   rw [← Option.some.inj ho]
   exact hh
  ·exact ⟨l[j], List.mem_of_getElem? (by rw [List.getElem?_set_ne hij]; exact List.getElem?_eq_getElem hj), hh⟩
 ·rintro ⟨x, hx, hh⟩
  rcases List.mem_or_eq_of_mem_set hx with hx | rfl
  ·exact ⟨x, hx, hh⟩
  ·exact ⟨o, List.mem_of_getElem? ho, hh⟩
theorem ledNext_set {W W' : World} {OP OL : Nat → Prop} {lb mb g n c last i : Nat} {pv : Value} {tk nt : Int} {ps : List (List Stp)} {l : List Or} (h : LedAt W OP OL lb mb pv (.slice (some ⟨g, 0, none⟩) n c) ps l last tk nt) (hn : l.length = n) {o : Or} (ho : l[i]? = some o) (hg : OL g) {s : Sg}
  (ha : AppSt W W' lb g (i * 11 + 3) (fun y => #[pv, .slice (some ⟨g, 0, none⟩) n c, .map (some mb), .int .u64 ((last : Int) + 1), .int .u32 1, .int .i64 1, .int .i64 y, .int .i64 nt]) s) : LedNext W W' OP OL lb mb pv ps (l.set i { o with sg := s }) (last + 1) nt := by
 obtain ⟨w, y, h1, h2, rfl⟩ := ha
 have s1 := h.s1
 have hmlt := h.mlt
 have hsz := h2.low.size
 have hgl := h.b2 g hg
 have hmlb : mb ≠ lb := fun e => by
  obtain ⟨D, ⟨es, clock, hh, _⟩, _⟩ := h.map
  have := h.blk
  rw [← e, hh] at this
  cases this
 have hfar : ∀ q, q ≠ g → (w.setCells g (i * 11 + 3) (sgC s)).heap[q]? = w.heap[q]? := fun q hq => setCells_far _ _ _ _ hq
 have hold : ∀ q, q < W.heap.size → q ≠ lb → q ≠ g → (w.setCells g (i * 11 + 3) (sgC s)).heap[q]? = W.heap[q]? := fun q a b d => (hfar q d).trans (h2.block q a b)
 have hsn : (w.setCells g (i * 11 + 3) (sgC s)).heap.size = w.heap.size := setCells_size _ _ _ _
 refine ⟨.slice (some ⟨g, 0, none⟩) n c, y, OL, ⟨?_, ?_, ?_, ?_, s1, h.s2, fun k hk => by have := h.b1 k hk; omega, fun k hk => by have := h.b2 k hk; omega⟩, fun k hk => .inl hk, ?_⟩
 ·rw [hfar lb (fun e => s1.1 (e ▸ hg)), h1]
  have : epF (last + 1) = 1 := by simp [epF]
  rw [this]
  simp only [Int.natCast_add, Int.natCast_one]
 ·exact h.rules.keep (fun k hk hl => hold k hl (fun e => s1.2.2.1 (e ▸ hk)) (fun e => h.s2 k hk (e ▸ hg))) (by omega)
 ·have ho2 : OrsAt w OL 120 11 [.bool false] (.slice (some ⟨g, 0, none⟩) n c) l := h.ors.keep (fun k hk hl => h2.block k hl (fun e => s1.1 (e ▸ hk))) hsz
  exact OrsAt.setSg (sz := 11) (tl := [.bool false]) rfl ho2 hn ho s
 ·obtain ⟨D, a, b⟩ := h.map
  refine ⟨D, ?_, keysAre_set b ho s⟩
  rw [List.length_set]
  exact ownsMap_keep a (hold mb hmlt hmlb (fun e => s1.2.1 (e ▸ hg)))
 ·exact (h2.mono (fun k hk => .inr (.inl hk))).setCells (.inl (.inl hg)) _ _
/-- An entry that may come, comes. -/
theorem apply_ok {W : World} {OP OL oe : Nat → Prop} {lb mb last : Nat} {pv lv : Value} {tk nt : Int} {ps : List (List Stp)} {l l' : List Or} (h : LedAt W OP OL lb mb pv lv ps l last tk nt) (hps : PsOk ps) (hlo : LOk ps l) {e : Ent} (hok : EntOk e) (hlsn : e.lsn = (last : Int) + 1) (hla : last < 1000000)
  {c : List Value} (hc : EntAt W oe e c) (hoe : ∀ k, oe k → k ≠ lb ∧ k ≠ mb) (hs : Step ps l e l') :
  Calls Tryz.prog 13 #[.pointer (some ⟨lb, 0, none⟩), .agg c.toArray] W fun x W' => x = .returned (.int .i64 0) ∧ LedNext W W' OP OL lb mb pv ps l' (last + 1) nt := by
 obtain ⟨ak, ck, ad, cd, rfl, b1, b2, q1, q2, a1, a2⟩ := hc
 have hchk := chk_ok hok ak ad ck cd
 have hep : epF last ≤ 1 := by unfold epF; split <;> decide
 obtain ⟨kind, lsn, order, step, undo, tr, code, key, data⟩ := e
 simp only at hlsn
 subst hlsn
 cases hs with
 | order k d h1 h2 h3 h4 h5 h6 h7 =>
  simp only at h1 h2 h3 h4
  subst h1 h2 h3 h4
  have hst : step = 0 ∧ undo = false ∧ tr = 0 ∧ code = 0 := by
   rcases hok.kind with ⟨_, _, _, _, _, a, b, d, f⟩ | ⟨a, _⟩ | ⟨a, _⟩
   ·exact ⟨a, b, d, f⟩
   ·cases a
   ·cases a
  obtain ⟨rfl, rfl, rfl, rfl⟩ := hst
  obtain ⟨A, cap, rfl⟩ : ∃ A cap, lv = .slice A l.length cap := by
   obtain ⟨cs, _, r, _⟩ := h.ors
   rcases r.2 with ⟨hv, h0⟩ | ⟨g, cap, _, hv, _⟩
   ·rw [h0]; exact ⟨_, _, hv⟩
   ·exact ⟨_, _, hv⟩
  obtain ⟨D, hm, hkeys⟩ := h.map
  have hh : Maps.has D (.string (strOfNums [(k : Int)]).data.toList) = false := by
   rw [hkeys k h5]
   exact decide_eq_false (fun ⟨o, ho, e⟩ => h7 o ho e)
  refine apply_order_l h rfl hlo.len b1 b2 (fun q o e => hoe q (a1 (by simp) q o e)) (fun q o e => hoe q (a2 (by simp) q o e)) h5 (fun w hw => ?_)
  refine lcheck_b true ((hw.block lb (blk_lt h.blk)).trans h.blk) hep hla hchk (fun w2 hw2 => ?_)
  have hw3 := hw.trans (hw2.mono hw.size)
  exact fits_order ((hw3.block lb (blk_lt h.blk)).trans h.blk) (h.rules.keep (fun k _ hk => hw3.block k hk) hw3.size) hps.len (ownsMap_keep hm (hw3.block mb hm.lt)) hlo.len (b1.below hw3 (Nat.le_refl _)) (b2.below hw3 (Nat.le_refl _)) (List.getElem?_eq_getElem h6) (hps.ok _ (List.getElem_mem h6)).l1 hh
 | intent i o dn h1 h2 h3 h4 h5 h6 h7 =>
  simp only at h1 h2 h5 h6 h7
  subst h1 h2 h5 h6 h7
  have hst : key = [] ∧ data = [] ∧ code = 0 := by
   rcases hok.kind with ⟨a, _⟩ | ⟨_, a, b, _, _, _, _, d⟩ | ⟨a, _⟩
   ·cases a
   ·exact ⟨a, b, d⟩
   ·cases a
  obtain ⟨rfl, rfl, rfl⟩ := hst
  obtain ⟨p, hp, hsg⟩ := hlo.at h3
  obtain ⟨g, cap, x, rfl, hgl, hog, hx, hr⟩ := h.ors.at rfl h3
  have hil := (List.getElem?_eq_some_iff.1 h3).1
  obtain ⟨oad, ocd, hoc, hbd⟩ := hx.cells hr
  have hpo := hps.ok p (List.mem_of_getElem? hp)
  have hoad : ∀ q o, oad = some ⟨q, o, none⟩ → q ≠ lb := by
   obtain ⟨_, _, ad', cd', rfl, _, _, _, a4⟩ := hx
   have := hoc.data
   have h2 := hr 2 (.slice ad' 1 cd') rfl
   rw [this] at h2
   injection h2 with h2
   injection h2 with h2
   subst h2
   exact fun q o' e1 e2 => h.s1.1 (e2 ▸ (a4 q o' e1).1)
  have hth : W.there g (i * 11 + 3) 7 := by
   obtain ⟨cs, r1, r2, _⟩ := h.ors
   exact own_there r2 (i * 11 + 3) 7 (by omega)
  refine (apply_intent_l (ak := ak) (ad := ad) (ck := ck) (cd := cd) h.blk h.rules h.s1.2.2.1 h.b1 hps.len hlo.len hil hoc hgl (fun e => h.s1.1 (e ▸ hog)) hbd hoad hp hpo hsg hth h4 (fun w hw => ?_)).mono (fun x w' hx => ⟨hx.1, ledNext_set h rfl h3 hog hx.2⟩)
  refine lcheck_b true ((hw.block lb (blk_lt h.blk)).trans h.blk) hep hla hchk (fun w2 hw2 => ?_)
  have hw3 := hw.trans (hw2.mono hw.size)
  exact fits_intent ((hw3.block lb (blk_lt h.blk)).trans h.blk) (h.rules.keep (fun k _ hk => hw3.block k hk) hw3.size) hps.len hlo.len hil (hoc.keep (hw3.block g hgl)) (Nat.lt_of_lt_of_le hgl hw3.size) (hbd.below hw3 (Nat.le_refl _)) hp hpo hsg h4
 | result i o p co h1 h2 h3 h4 h5 h6 h7 h8 h9 h10 =>
  simp only at h1 h2 h6 h7 h8 h9
  subst h1 h2 h6 h7 h8 h9
  have hst : key = [] ∧ data = [] := by
   rcases hok.kind with ⟨a, _⟩ | ⟨a, _⟩ | ⟨_, a, b, _⟩
   ·cases a
   ·cases a
   ·exact ⟨a, b⟩
  obtain ⟨rfl, rfl⟩ := hst
  obtain ⟨p', hp', hsg⟩ := hlo.at h3
  obtain rfl : p' = p := by rw [h5] at hp'; exact (Option.some.inj hp').symm
  obtain ⟨g, cap, x, rfl, hgl, hog, hx, hr⟩ := h.ors.at rfl h3
  have hil := (List.getElem?_eq_some_iff.1 h3).1
  obtain ⟨oad, ocd, hoc, hbd⟩ := hx.cells hr
  have hpo := hps.ok p' (List.mem_of_getElem? h5)
  have hoad : ∀ q o, oad = some ⟨q, o, none⟩ → q ≠ lb := by
   obtain ⟨_, _, ad', cd', rfl, _, _, _, a4⟩ := hx
   have := hoc.data
   have h2 := hr 2 (.slice ad' 1 cd') rfl
   rw [this] at h2
   injection h2 with h2
   injection h2 with h2
   subst h2
   exact fun q o' e1 e2 => h.s1.1 (e2 ▸ (a4 q o' e1).1)
  have hth : W.there g (i * 11 + 3) 7 := by
   obtain ⟨cs, r1, r2, _⟩ := h.ors
   exact own_there r2 (i * 11 + 3) 7 (by omega)
  refine (apply_result_l (ak := ak) (ad := ad) (ck := ck) (cd := cd) h.blk h.rules h.s1.2.2.1 h.b1 hps.len hlo.len hil hoc hgl (fun e => h.s1.1 (e ▸ hog)) hbd hoad h5 hpo hsg hth h4 h10 rfl (fun w hw => ?_)).mono (fun x w' hx => ⟨hx.1, ledNext_set h rfl h3 hog hx.2⟩)
  refine lcheck_b true ((hw.block lb (blk_lt h.blk)).trans h.blk) hep hla hchk (fun w2 hw2 => ?_)
  have hw3 := hw.trans (hw2.mono hw.size)
  have hoc3 := hoc.keep (hw3.block g hgl)
  generalize o.sg = s at *
  cases hsg with
  | over c a b => cases h4
  | idle ph st tr x a b c => cases h4
  | wait ph st tr x a b c d =>
   rcases b with rfl | ⟨rfl, b⟩
   ·exact fits_result1 ((hw3.block lb (blk_lt h.blk)).trans h.blk) hlo.len hil hoc3 (Nat.lt_of_lt_of_le hgl hw3.size)
   ·exact fits_result2 ((hw3.block lb (blk_lt h.blk)).trans h.blk) hlo.len hil hoc3 (Nat.lt_of_lt_of_le hgl hw3.size)
/-- An order whose key is there does not come. -/
theorem apply_dup {W : World} {OP OL oe : Nat → Prop} {lb mb last : Nat} {pv lv : Value} {tk nt : Int} {ps : List (List Stp)} {l : List Or} (h : LedAt W OP OL lb mb pv lv ps l last tk nt) (hps : PsOk ps) (hlo : LOk ps l) {e : Ent} (hok : EntOk e) (hlsn : e.lsn = (last : Int) + 1) (hla : last < 1000000)
  {c : List Value} (hc : EntAt W oe e c) {k d : Nat} (h1 : e.kind = 2) (h2 : e.order = (l.length : Int) + 1) (h3 : e.key = [(k : Int)]) (h4 : e.data = [(d : Int)]) (h5 : k < 256) (h6 : d < ps.length) (h7 : ∃ o ∈ l, o.key = k) :
  Calls Tryz.prog 13 #[.pointer (some ⟨lb, 0, none⟩), .agg c.toArray] W fun x W' => x = .returned (.int .i64 200) ∧ (∃ y : Int, LedAt W' OP OL lb mb pv lv ps l last tk y) ∧ Frame (fun k => k = lb) W W' := by
 obtain ⟨ak, ck, ad, cd, rfl, b1, b2, q1, q2, a1, a2⟩ := hc
 have hchk := chk_ok hok ak ad ck cd
 have hep : epF last ≤ 1 := by unfold epF; split <;> decide
 obtain ⟨kind, lsn, order, step, undo, tr, code, key, data⟩ := e
 simp only at hlsn h1 h2 h3 h4
 subst hlsn h1 h2 h3 h4
 have hst : step = 0 ∧ undo = false ∧ tr = 0 ∧ code = 0 := by
  rcases hok.kind with ⟨_, _, _, _, _, a, b, d, f⟩ | ⟨a, _⟩ | ⟨a, _⟩
  ·exact ⟨a, b, d, f⟩
  ·cases a
  ·cases a
 obtain ⟨rfl, rfl, rfl, rfl⟩ := hst
 obtain ⟨A, cap, rfl⟩ : ∃ A cap, lv = .slice A l.length cap := by
  obtain ⟨cs, _, r, _⟩ := h.ors
  rcases r.2 with ⟨hv, h0⟩ | ⟨g, cap, _, hv, _⟩
  ·rw [h0]; exact ⟨_, _, hv⟩
  ·exact ⟨_, _, hv⟩
 obtain ⟨D, hm, hkeys⟩ := h.map
 have hh : Maps.has D (.string (strOfNums [(k : Int)]).data.toList) = true := by
  rw [hkeys k h5]
  exact decide_eq_true h7
 refine (apply_no_l h.blk (fun w hw => ?_)).mono (fun x w' hx => ⟨hx.1, ?_, hx.2.2⟩)
 ·refine lcheck_b false ((hw.block lb (blk_lt h.blk)).trans h.blk) hep hla hchk (fun w2 hw2 => ?_)
  have hw3 := hw.trans (hw2.mono hw.size)
  exact fits_dup ((hw3.block lb (blk_lt h.blk)).trans h.blk) (h.rules.keep (fun k _ hk => hw3.block k hk) hw3.size) hps.len (ownsMap_keep hm (hw3.block mb hm.lt)) hlo.len (b1.below hw3 (Nat.le_refl _)) (b2.below hw3 (Nat.le_refl _)) (List.getElem?_eq_getElem h6) (hps.ok _ (List.getElem_mem h6)).l1 hh
 ·obtain ⟨_, ⟨y, hy⟩, hf⟩ := hx
  have s1 := h.s1
  have hsz := hf.low.size
  have hmlb : mb ≠ lb := fun e => by
   obtain ⟨es, clock, hh, _⟩ := hm
   have := h.blk
   rw [← e, hh] at this
   cases this
  exact ⟨y, hy, h.rules.keep (fun k hk hl => hf.block k hl (fun e => s1.2.2.1 (e ▸ hk))) hsz, h.ors.keep (fun k hk hl => hf.block k hl (fun e => s1.1 (e ▸ hk))) hsz, ⟨D, ownsMap_keep hm (hf.block mb hm.lt hmlb), hkeys⟩, s1, h.s2, fun k hk => by have := h.b1 k hk; omega, fun k hk => by have := h.b2 k hk; omega⟩
end Go.Proofs.YthfjhgdiakciaaaGreat.Bl
/- What a ledger waits for (Asked). Condition: the ledger lies in memory as it is told. -/
namespace Go.Proofs.YthfjhgdiakciaaaGreat.Bl
open Go.RowKit Go.Maps
set_option linter.unusedVariables false
set_option linter.unusedSimpArgs false
structure Du where
 no : Nat
 d : Dn
def duC (u : Du) : List Value := [.int .u32 u.no, .int .i64 u.d.st, .bool u.d.undo, .int .i64 u.d.tr]
def oneL (f : Sg → Option Dn) (n : Nat) (o : Or) : List Du := match f o.sg with
 | none => []
 | some d => [⟨n, d⟩]
def colL (f : Sg → Option Dn) : Nat → List Or → List Du
 | _, [] => []
 | n, o :: r => oneL f n o ++ colL f (n + 1) r
theorem colL_snoc (f : Sg → Option Dn) : ∀ (l : List Or) (n : Nat) (o : Or), colL f n (l ++ [o]) = colL f n l ++ oneL f (n + l.length) o
 | [], n, o => by simp [colL]
 | x :: r, n, o => by
  rw [List.cons_append, colL, colL, colL_snoc f r, List.append_assoc, List.length_cons]
  congr 3
  omega
theorem colL_take (f : Sg → Option Dn) (l : List Or) (n i : Nat) (h : i < l.length) : colL f n (l.take (i + 1)) = colL f n (l.take i) ++ oneL f (n + i) l[i] := by
 rw [List.take_add_one, List.getElem?_eq_getElem h]
 show colL f n (l.take i ++ [l[i]]) = _
 rw [colL_snoc, List.length_take, Nat.min_eq_left (by omega)]
theorem colL_len (f : Sg → Option Dn) : ∀ (l : List Or) (n : Nat), (colL f n l).length ≤ l.length
 | [], _ => Nat.le_refl _
 | o :: r, n => by
  have h1 := colL_len f r (n + 1)
  have h2 : (oneL f n o).length ≤ 1 := by unfold oneL; split <;> simp
  rw [colL, List.length_append, List.length_cons]
  omega
def askedS (s : Sg) : Option Dn := if s.asked = true then some ⟨s.st, s.ph == 2, s.tr⟩ else none
/-- A row of things to be done. -/
def DueRow (W : World) (base : Nat) (v : Value) (L : List Du) : Prop := W.ownsRow base 51 4 v L.length (L.flatMap duC)
theorem info51 : (Tryz.prog.info? 51).map (fun i => (i.zero, i.size, i.bytes)) = some (some (.agg #[.int .u32 0, .int .i64 0, .bool false, .int .i64 0]), 4, 32) := by kernel_rfl
set_option maxRecDepth 100000 in
theorem wpList_build42 {ops : Array Oper} {rest : List Oper} {o : Oper} {a : Act} {w : World} {Q : Exit → Act → World → Prop} (hgd : o.guard = none) (x : Operand) (ho : o.op = .buildSlice 42 1 #[(0, x)]) (cs : List Value) (hx : a.eval x = .agg cs.toArray) (hl : cs.length = 4)
  (h : wpList Tryz.prog ops Q rest (a.put o.dst (.slice (some ⟨w.heap.size, 0, none⟩) 1 1)) (w.alloc (.cells cs.toArray 51 (0, 0)))) : wpList Tryz.prog ops Q (o :: rest) a w := by
 refine wpList_plain hgd fun K hK => ?_
 obtain ⟨i0, hi, hz0, hz1, hz2⟩ := info_parts info51
 refine wp_buildSlice 42 51 1 #[(0, x)] ho cs.toArray i0 _ Tryz.underlying42 hi hz0 (by rw [hz1]; decide) (by rw [hz1]; decide) ?_ (hK _ _ h)
 have := Great.fill_whole (s := 4) (by omega) [.agg cs.toArray] ((Array.range (1 * i0.size)).map ((Value.agg #[.int .u32 0, .int .i64 0, .bool false, .int .i64 0]).cells[· % (Value.agg #[.int .u32 0, .int .i64 0, .bool false, .int .i64 0]).cells.size]!)) (fun v hv => by
  obtain rfl : v = .agg cs.toArray := by simpa using hv
  show cs.toArray.size = 4
  rw [List.size_toArray, hl]) (by simp [hz1])
 rw [hz1] at this ⊢
 simp only [List.flatMap_cons, List.flatMap_nil, List.append_nil] at this
 refine Eq.trans ?_ (this.trans ?_)
 ·congr 1
  simp [hx]
 ·rfl
theorem duC_one (a b d : Int) (u : Bool) : ∀ v ∈ ([.int .u32 a, .int .i64 b, .bool u, .int .i64 d] : List Value), v.oneCell' = true := fun v hv => by
 simp only [List.mem_cons, List.not_mem_nil, or_false] at hv
 rcases hv with rfl | rfl | rfl | rfl <;> rfl
theorem DueRow.form {W : World} {base : Nat} {v : Value} {L : List Du} (h : DueRow W base v L) : ∃ A c, v = .slice A L.length c := by
 rcases h.2 with ⟨hv, h0⟩ | ⟨g, cap, _, hv, _⟩
 ·rw [h0]; exact ⟨_, _, hv⟩
 ·exact ⟨_, _, hv⟩
def SomeDue (W W' : World) (e : Ending) (L : List Du) : Prop := ∃ v, e = .returned v ∧ DueRow W' W.heap.size v L ∧ Below W.heap.size W W'
set_option maxHeartbeats 4000000 in
set_option maxRecDepth 100000 in
theorem asked_a {W : World} {OP OL : Nat → Prop} {lb mb last : Nat} {pv lv : Value} {tk nt : Int} {ps : List (List Stp)} {l : List Or} (h : LedAt W OP OL lb mb pv lv ps l last tk nt) (hlo : LOk ps l) :
  Calls Tryz.prog 10 #[.pointer (some ⟨lb, 0, none⟩)] W fun e W' => SomeDue W W' e (colL askedS 1 l) := by
 obtain ⟨A, c, rfl⟩ : ∃ A c, lv = .slice A l.length c := by
  obtain ⟨cs, _, r, _⟩ := h.ors
  rcases r.2 with ⟨hv, h0⟩ | ⟨g, cap, _, hv, _⟩
  ·rw [h0]; exact ⟨_, _, hv⟩
  ·exact ⟨_, _, hv⟩
 obtain ⟨_, c1, _⟩ := h.cells
 obtain ⟨i1, hi1, hz0, hz1, hz2⟩ := info_parts info51
 have HO := As.mk h.ors
 have HLO := As.mk hlo
 have hl5 := hlo.len
 clear h hlo
 go_enter Tryz.func10, Tryz.ntmps10
 go_wp2_with fail
 go_loopg [3, 14] l.length (fun gk v3 v14 w' => ∃ (i : Nat) (v : Value), v14 = .int .i64 i ∧ v3 = v ∧ As (gk = l.length - i) ∧ As (i ≤ l.length) ∧ As (DueRow w' W.heap.size v (colL askedS 1 (l.take i))) ∧ As (Below W.heap.size W w'))
 case atStart => exact ⟨0, _, rfl, rfl, ⟨rfl⟩, ⟨Nat.zero_le _⟩, ⟨World.ownsRow_nil _ _ _ _⟩, ⟨Below.refl _ _⟩⟩
 case round =>
  obtain ⟨i, v, rfl, hv3, HK, HI, HR, HB⟩ := hrel
  have hv3 := hv3.symm
  subst hv3
  have hs := HB.out.size
  by_cases hlt : i < l.length
  ·obtain ⟨g, c', x, hv, hgl, _, hx, hr⟩ := HO.out.at rfl (List.getElem?_eq_getElem hlt)
   injection hv with e1 _ e2
   subst e1 e2
   have hr1 := As.mk (range_heap hr (HB.out.block g hgl))
   have HT : As (colL askedS 1 (l.take (i + 1)) = colL askedS 1 (l.take i) ++ oneL askedS (i + 1) l[i]) := ⟨by rw [colL_take _ _ _ _ hlt, Nat.add_comm 1 i]⟩
   obtain ⟨ak, ck, ad, cd, rfl, _⟩ := hx
   obtain ⟨p, _, hsg⟩ := HLO.out.at (List.getElem?_eq_getElem hlt)
   have hlen := colL_len askedS (l.take i) 1
   rw [List.length_take] at hlen
   clear hr
   unfold orC at hr1
   generalize colL askedS 1 (l.take i) = L at *
   obtain ⟨L', hL'⟩ : ∃ L', L' = colL askedS 1 (l.take (i + 1)) := ⟨_, rfl⟩
   rw [← hL'] at HT
   have HL' := As.mk hL'
   clear hL'
   unfold oneL at HT
   generalize l[i] = o at *
   obtain ⟨okey, opl, s⟩ := o
   simp only at hr1 HT hsg
   have hskip : s.asked = false ∨ ∃ ph st tr, (ph = 1 ∨ ph = 2) ∧ s = ⟨ph, st, tr, true, 0⟩ := by
    cases hsg with
    | over c a b => exact .inl rfl
    | idle ph st tr x a b c => exact .inl rfl
    | wait ph st tr x a b c d => exact .inr ⟨ph, st, tr, b.imp id (fun h => h.1), rfl⟩
   clear hsg
   rcases hskip with ha | ⟨ph, st, tr, hph, rfl⟩
   ·rw [ha] at hr1
    have HT' : As (L' = L) := ⟨by rw [HT.out]; unfold askedS; rw [if_neg (by rw [ha]; decide)]; simp⟩
    clear ha HT
    go_wp2_with (refine wpList_load_mid rfl 120 (.tmp 16) rfl g (i * 11) rfl _ _ hr1.out Tryz.underlying120 rfl size120 ?_)
    go_roundg (l.length - (i + 1))
    case measure => have := HK.out; omega
    case rel => exact ⟨i + 1, _, by go_num, rfl, ⟨rfl⟩, ⟨by omega⟩, ⟨by rw [← HL'.out, HT'.out]; exact (World.ownsRow.alloc HR.out _).alloc _⟩, ⟨(HB.out.alloc hs _).alloc (by simp; omega) _⟩⟩
   ·obtain ⟨A1, c1', rfl⟩ := HR.out.form
    have HT' : As (L' = L ++ [⟨i + 1, st, ph == 2, tr⟩]) := ⟨by rw [HT.out]; rfl⟩
    clear HT
    rcases hph with rfl | rfl
    ·go_upto_region 9 with (refine wpList_load_mid rfl 120 (.tmp 16) rfl g (i * 11) rfl _ _ hr1.out Tryz.underlying120 rfl size120 ?_)
     obtain ⟨b5, hb5⟩ : ∃ b5, b5 = wr.heap.size := ⟨_, rfl⟩
     have h5 : As (((wr.alloc (.cells #[.int .u32 ((i : Int) + 1), .slice ak 1 ck, .slice ad 1 cd, .int .i64 1, .int .i64 st, .int .i64 tr, .bool true, .int .i64 (leftF true), .bool false, .int .i64 0, .bool false] 120)).alloc (.cells #[.int .i64 1, .int .i64 st, .int .i64 tr, .bool true, .int .i64 (leftF true), .bool false, .int .i64 0] 116)).heap[b5]? = some (.cells #[.int .u32 ((i : Int) + 1), .slice ak 1 ck, .slice ad 1 cd, .int .i64 1, .int .i64 st, .int .i64 tr, .bool true, .int .i64 (leftF true), .bool false, .int .i64 0, .bool false] 120 (0, 0))) := ⟨by rw [hb5]; exact heap_alloc2_old wr _ _⟩
     have h6 : As (((wr.alloc (.cells #[.int .u32 ((i : Int) + 1), .slice ak 1 ck, .slice ad 1 cd, .int .i64 1, .int .i64 st, .int .i64 tr, .bool true, .int .i64 (leftF true), .bool false, .int .i64 0, .bool false] 120)).alloc (.cells #[.int .i64 1, .int .i64 st, .int .i64 tr, .bool true, .int .i64 (leftF true), .bool false, .int .i64 0] 116)).heap[b5 + 1]? = some (.cells #[.int .i64 1, .int .i64 st, .int .i64 tr, .bool true, .int .i64 (leftF true), .bool false, .int .i64 0] 116 (0, 0))) := ⟨by rw [hb5]; exact heap_alloc2_new wr _ _⟩
     have R2 : As (((wr.alloc (.cells #[.int .u32 ((i : Int) + 1), .slice ak 1 ck, .slice ad 1 cd, .int .i64 1, .int .i64 st, .int .i64 tr, .bool true, .int .i64 (leftF true), .bool false, .int .i64 0, .bool false] 120)).alloc (.cells #[.int .i64 1, .int .i64 st, .int .i64 tr, .bool true, .int .i64 (leftF true), .bool false, .int .i64 0] 116)).ownsRow W.heap.size 51 4 (.slice A1 L.length c1') L.length (L.flatMap duC)) := ⟨(World.ownsRow.alloc HR.out _).alloc _⟩
     have B2 : As (Below W.heap.size W ((wr.alloc (.cells #[.int .u32 ((i : Int) + 1), .slice ak 1 ck, .slice ad 1 cd, .int .i64 1, .int .i64 st, .int .i64 tr, .bool true, .int .i64 (leftF true), .bool false, .int .i64 0, .bool false] 120)).alloc (.cells #[.int .i64 1, .int .i64 st, .int .i64 tr, .bool true, .int .i64 (leftF true), .bool false, .int .i64 0] 116))) := ⟨(HB.out.alloc hs _).alloc (by simp; omega) _⟩
     rw [← hb5]
     generalize ((wr.alloc (.cells #[.int .u32 ((i : Int) + 1), .slice ak 1 ck, .slice ad 1 cd, .int .i64 1, .int .i64 st, .int .i64 tr, .bool true, .int .i64 (leftF true), .bool false, .int .i64 0, .bool false] 120)).alloc (.cells #[.int .i64 1, .int .i64 st, .int .i64 tr, .bool true, .int .i64 (leftF true), .bool false, .int .i64 0] 116)) = w2 at *
     clear hb5
     have y0 := (blk_cell h5.out 0).trans rfl
     have z0 := (blk_cell h6.out 0).trans rfl
     have z1 := (blk_cell h6.out 1).trans rfl
     have z2 := (blk_cell h6.out 2).trans rfl
     have hs2 := B2.out.size
     have R3 : As ((w2.alloc (.cells ([.int .u32 ((i : Int) + 1), .int .i64 st, .bool false, .int .i64 tr] : List Value).toArray 51 (0, 0))).ownsRow W.heap.size 51 4 (.slice A1 L.length c1') L.length (L.flatMap duC)) := ⟨R2.out.alloc _⟩
     go_wp2_with (first | (refine wpList_build42 rfl (.tmp 35) rfl [.int .u32 ((i : Int) + 1), .int .i64 st, .bool false, .int .i64 tr] rfl rfl ?_) | ((at_builtin; refine wpList_append_lies _ rfl _ _ 42 rfl W.heap.size 51 i1 _ 4 32 Tryz.underlying42 hi1 hz0 hz1 hz2 rfl (by omega) _ _ _ rfl R3.out ⟨w2.heap.size, 0, none⟩ 1 1 [.int .u32 ((i : Int) + 1), .int .i64 st, .bool false, .int .i64 tr] rfl rfl (World.news_of_block (blk_new w2 _)) (duC_one _ _ _ _) (by omega) (by unfold maxLen; omega) (by omega) (by simp; omega) _ rfl ?_)))
     intro gg cap w4 q1 q2 q3 q4
     have B4 : As (Below W.heap.size W w4) := ⟨(B2.out.alloc hs2 _).grown q2 (by simp; omega) (fun q hq => (R2.out.lt q hq).1)⟩
     have R4 : As (DueRow w4 W.heap.size (.slice (some ⟨gg, 0, none⟩) (L.length + 1) cap) L') := ⟨by
      rw [HT'.out]
      unfold DueRow
      rw [List.length_append, List.flatMap_append]
      simpa [duC] using q1⟩
     clear q1 q2 q3 q4
     go_wp2_with fail
     go_roundg (l.length - (i + 1))
     case measure => have := HK.out; omega
     case rel => exact ⟨i + 1, _, by go_num, rfl, ⟨rfl⟩, ⟨by omega⟩, ⟨by rw [← HL'.out]; exact R4.out⟩, B4⟩
    ·go_upto_region 9 with (refine wpList_load_mid rfl 120 (.tmp 16) rfl g (i * 11) rfl _ _ hr1.out Tryz.underlying120 rfl size120 ?_)
     obtain ⟨b5, hb5⟩ : ∃ b5, b5 = wr.heap.size := ⟨_, rfl⟩
     have h5 : As (((wr.alloc (.cells #[.int .u32 ((i : Int) + 1), .slice ak 1 ck, .slice ad 1 cd, .int .i64 2, .int .i64 st, .int .i64 tr, .bool true, .int .i64 (leftF true), .bool false, .int .i64 0, .bool false] 120)).alloc (.cells #[.int .i64 2, .int .i64 st, .int .i64 tr, .bool true, .int .i64 (leftF true), .bool false, .int .i64 0] 116)).heap[b5]? = some (.cells #[.int .u32 ((i : Int) + 1), .slice ak 1 ck, .slice ad 1 cd, .int .i64 2, .int .i64 st, .int .i64 tr, .bool true, .int .i64 (leftF true), .bool false, .int .i64 0, .bool false] 120 (0, 0))) := ⟨by rw [hb5]; exact heap_alloc2_old wr _ _⟩
     have h6 : As (((wr.alloc (.cells #[.int .u32 ((i : Int) + 1), .slice ak 1 ck, .slice ad 1 cd, .int .i64 2, .int .i64 st, .int .i64 tr, .bool true, .int .i64 (leftF true), .bool false, .int .i64 0, .bool false] 120)).alloc (.cells #[.int .i64 2, .int .i64 st, .int .i64 tr, .bool true, .int .i64 (leftF true), .bool false, .int .i64 0] 116)).heap[b5 + 1]? = some (.cells #[.int .i64 2, .int .i64 st, .int .i64 tr, .bool true, .int .i64 (leftF true), .bool false, .int .i64 0] 116 (0, 0))) := ⟨by rw [hb5]; exact heap_alloc2_new wr _ _⟩
     have R2 : As (((wr.alloc (.cells #[.int .u32 ((i : Int) + 1), .slice ak 1 ck, .slice ad 1 cd, .int .i64 2, .int .i64 st, .int .i64 tr, .bool true, .int .i64 (leftF true), .bool false, .int .i64 0, .bool false] 120)).alloc (.cells #[.int .i64 2, .int .i64 st, .int .i64 tr, .bool true, .int .i64 (leftF true), .bool false, .int .i64 0] 116)).ownsRow W.heap.size 51 4 (.slice A1 L.length c1') L.length (L.flatMap duC)) := ⟨(World.ownsRow.alloc HR.out _).alloc _⟩
     have B2 : As (Below W.heap.size W ((wr.alloc (.cells #[.int .u32 ((i : Int) + 1), .slice ak 1 ck, .slice ad 1 cd, .int .i64 2, .int .i64 st, .int .i64 tr, .bool true, .int .i64 (leftF true), .bool false, .int .i64 0, .bool false] 120)).alloc (.cells #[.int .i64 2, .int .i64 st, .int .i64 tr, .bool true, .int .i64 (leftF true), .bool false, .int .i64 0] 116))) := ⟨(HB.out.alloc hs _).alloc (by simp; omega) _⟩
     rw [← hb5]
     generalize ((wr.alloc (.cells #[.int .u32 ((i : Int) + 1), .slice ak 1 ck, .slice ad 1 cd, .int .i64 2, .int .i64 st, .int .i64 tr, .bool true, .int .i64 (leftF true), .bool false, .int .i64 0, .bool false] 120)).alloc (.cells #[.int .i64 2, .int .i64 st, .int .i64 tr, .bool true, .int .i64 (leftF true), .bool false, .int .i64 0] 116)) = w2 at *
     clear hb5
     have y0 := (blk_cell h5.out 0).trans rfl
     have z0 := (blk_cell h6.out 0).trans rfl
     have z1 := (blk_cell h6.out 1).trans rfl
     have z2 := (blk_cell h6.out 2).trans rfl
     have hs2 := B2.out.size
     have R3 : As ((w2.alloc (.cells ([.int .u32 ((i : Int) + 1), .int .i64 st, .bool true, .int .i64 tr] : List Value).toArray 51 (0, 0))).ownsRow W.heap.size 51 4 (.slice A1 L.length c1') L.length (L.flatMap duC)) := ⟨R2.out.alloc _⟩
     go_wp2_with (first | (refine wpList_build42 rfl (.tmp 35) rfl [.int .u32 ((i : Int) + 1), .int .i64 st, .bool true, .int .i64 tr] rfl rfl ?_) | ((at_builtin; refine wpList_append_lies _ rfl _ _ 42 rfl W.heap.size 51 i1 _ 4 32 Tryz.underlying42 hi1 hz0 hz1 hz2 rfl (by omega) _ _ _ rfl R3.out ⟨w2.heap.size, 0, none⟩ 1 1 [.int .u32 ((i : Int) + 1), .int .i64 st, .bool true, .int .i64 tr] rfl rfl (World.news_of_block (blk_new w2 _)) (duC_one _ _ _ _) (by omega) (by unfold maxLen; omega) (by omega) (by simp; omega) _ rfl ?_)))
     intro gg cap w4 q1 q2 q3 q4
     have B4 : As (Below W.heap.size W w4) := ⟨(B2.out.alloc hs2 _).grown q2 (by simp; omega) (fun q hq => (R2.out.lt q hq).1)⟩
     have R4 : As (DueRow w4 W.heap.size (.slice (some ⟨gg, 0, none⟩) (L.length + 1) cap) L') := ⟨by
      rw [HT'.out]
      unfold DueRow
      rw [List.length_append, List.flatMap_append]
      simpa [duC] using q1⟩
     clear q1 q2 q3 q4
     go_wp2_with fail
     go_roundg (l.length - (i + 1))
     case measure => have := HK.out; omega
     case rel => exact ⟨i + 1, _, by go_num, rfl, ⟨rfl⟩, ⟨by omega⟩, ⟨by rw [← HL'.out]; exact R4.out⟩, B4⟩
  ·have hi : i = l.length := by have := HI.out; omega
   subst hi
   go_wp2_with fail
   go_ret
   refine ⟨_, rfl, ?_, HB.out⟩
   have := HR.out
   rw [List.take_length] at this
   exact this
end Go.Proofs.YthfjhgdiakciaaaGreat.Bl
