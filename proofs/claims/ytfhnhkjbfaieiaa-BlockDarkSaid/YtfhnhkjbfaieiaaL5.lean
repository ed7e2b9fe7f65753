/- The function BlockDark of layer 15, over its callees: it returns true. Condition: the argument reads as a list of acts. -/
import Derived.Test.YtfhnhkjbfaieiaaL0
namespace Go.Proofs.Ytfhnhkjbfaieiaa.Bl
open Go.RowKit
set_option linter.unusedVariables false
set_option linter.unusedSimpArgs false
/-- A disk of which n acts were let, 'done' of them done. -/
structure Lets (s : St) (n done i : Nat) : Prop where
  le : done ≤ n
  left : s.left = n - done
  dark : s.dark = true → done = n
  limit : s.limit = 4
  wait : s.wait.length ≤ i
theorem lets_start (n : Nat) (h : n < 30) : Lets (darkF (newS 4) n) n 0 0 := by
  refine ⟨Nat.zero_le _, ?_, fun h => ?_, rfl, Nat.le_refl _⟩
  · unfold darkF
    show (if (n : Int) < -1 then (-1 : Int) else n) = _
    rw [if_neg (by omega)]
    simp
  · cases h
theorem act_yes {s : St} {n done i : Nat} (h : Lets s n done i) (hd : done < n) : actF s = (true, { s with left := s.left - 1 }) := by
  have hk : s.dark = false := by
    cases hq : s.dark with
    | false => rfl
    | true => have := h.dark hq; omega
  have hl := h.left
  unfold actF
  rw [if_neg (by rw [hk]; decide), if_neg (by omega), if_pos (by omega)]
theorem act_no {s : St} {n done i : Nat} (h : Lets s n done i) (hd : ¬ done < n) : (actF s).1 = false ∧ (actF s).2.dark = true ∧ (actF s).2.wait = s.wait ∧ (actF s).2.left = s.left ∧ (actF s).2.limit = s.limit := by
  have hl := h.left
  have hle := h.le
  unfold actF
  split
  · rename_i hq; exact ⟨rfl, hq, rfl, rfl, rfl⟩
  · rw [if_pos (by omega)]
    exact ⟨rfl, rfl, rfl, rfl, rfl⟩
theorem flush_yes {s : St} {n done i : Nat} (h : Lets s n done i) (hd : done < n) : ∃ s', flushF s = (0, s') ∧ Lets s' n (done + 1) (i + 1) := by
  have ha := act_yes h hd
  refine ⟨{ s with left := s.left - 1, sure := s.now, wait := [] }, by unfold flushF; rw [ha, if_pos rfl], by omega, ?_, fun hq => ?_, h.limit, Nat.zero_le _⟩
  · have := h.left; show s.left - 1 = _; omega
  · have hq : s.dark = true := hq
    have := h.dark hq; omega
theorem flush_no {s : St} {n done i : Nat} (h : Lets s n done i) (hd : ¬ done < n) : ∃ s', flushF s = (6, s') ∧ Lets s' n done (i + 1) ∧ s'.wait.length = s.wait.length ∧ s'.dark = true := by
  obtain ⟨a1, a2, a3, a4, a5⟩ := act_no h hd
  refine ⟨(actF s).2, by unfold flushF; rw [if_neg (by rw [a1]; decide)], ⟨h.le, by rw [a4]; exact h.left, fun _ => by have := h.le; omega, by rw [a5]; exact h.limit, by rw [a3]; have := h.wait; omega⟩, by rw [a3], a2⟩
theorem write_yes {s : St} {n done i : Nat} (h : Lets s n done i) (hd : done < n) (k : Nat) (hk : k < 4) (x : List Int) (hx : x.length = 64) : ∃ s', writeF s 4 k x = (0, s') ∧ Lets s' n (done + 1) (i + 1) := by
  have ha := act_yes h hd
  have hk' : s.dark = false := by
    cases hq : s.dark with
    | false => rfl
    | true => have := h.dark hq; omega
  have hlim := h.limit
  refine ⟨{ s with left := s.left - 1, now := s.now.set k x, wait := s.wait ++ [⟨k, x⟩] }, by unfold writeF; rw [if_neg (by rw [hk']; decide), if_neg (by omega), if_neg (by omega), ha, if_neg (by simp)]; rfl, by omega, ?_, fun hq => ?_, hlim, ?_⟩
  · have := h.left; show s.left - 1 = _; omega
  · have hq : s.dark = true := hq
    have := h.dark hq; omega
  · show (s.wait ++ [_]).length ≤ _
    rw [List.length_append]
    have := h.wait
    simp
    omega
theorem write_no {s : St} {n done i : Nat} (h : Lets s n done i) (hd : ¬ done < n) (k : Nat) (hk : k < 4) (x : List Int) (hx : x.length = 64) : ∃ s', writeF s 4 k x = (6, s') ∧ Lets s' n done (i + 1) ∧ s'.wait.length = s.wait.length ∧ s'.dark = true := by
  obtain ⟨a1, a2, a3, a4, a5⟩ := act_no h hd
  have hlim := h.limit
  by_cases hq : s.dark = true
  · exact ⟨s, by unfold writeF; rw [if_pos hq], ⟨h.le, h.left, h.dark, hlim, by have := h.wait; omega⟩, rfl, hq⟩
  · refine ⟨(actF s).2, by unfold writeF; rw [if_neg hq, if_neg (by omega), if_neg (by omega), if_pos a1], ⟨h.le, by rw [a4]; exact h.left, fun _ => by have := h.le; omega, by rw [a5]; exact hlim, by rw [a3]; have := h.wait; omega⟩, by rw [a3], a2⟩
/-- What an act comes to: it goes well and is counted, or it does not. -/
def Comes (n done : Nat) (r : Int) (d2 : Nat) : Prop := (done < n ∧ r = 0 ∧ d2 = done + 1) ∨ (¬ done < n ∧ r = 6 ∧ d2 = done)
theorem comes (n done : Nat) : ∃ r d2, Comes n done r d2 := by
  by_cases h : done < n
  · exact ⟨0, done + 1, .inl ⟨h, rfl, rfl⟩⟩
  · exact ⟨6, done, .inr ⟨h, rfl, rfl⟩⟩
theorem flush_lets {s : St} {n done i : Nat} (h : Lets s n done i) {r : Int} {d2 : Nat} (hr : Comes n done r d2) : ∃ s', flushF s = (r, s') ∧ Lets s' n d2 (i + 1) ∧ (r = 6 → s'.wait.length = s.wait.length ∧ s'.dark = true) := by
  rcases hr with ⟨hd, rfl, rfl⟩ | ⟨hd, rfl, rfl⟩
  · obtain ⟨s', h1, h2⟩ := flush_yes h hd
    exact ⟨s', h1, h2, fun h => by omega⟩
  · obtain ⟨s', h1, h2, h3⟩ := flush_no h hd
    exact ⟨s', h1, h2, fun _ => h3⟩
theorem write_lets {s : St} {n done i : Nat} (h : Lets s n done i) {r : Int} {d2 : Nat} (hr : Comes n done r d2) (k : Nat) (hk : k < 4) (x : List Int) (hx : x.length = 64) : ∃ s', writeF s 4 k x = (r, s') ∧ Lets s' n d2 (i + 1) ∧ (r = 6 → s'.wait.length = s.wait.length ∧ s'.dark = true) := by
  rcases hr with ⟨hd, rfl, rfl⟩ | ⟨hd, rfl, rfl⟩
  · obtain ⟨s', h1, h2⟩ := write_yes h hd k hk x hx
    exact ⟨s', h1, h2, fun h => by omega⟩
  · obtain ⟨s', h1, h2, h3⟩ := write_no h hd k hk x hx
    exact ⟨s', h1, h2, fun _ => h3⟩
set_option maxHeartbeats 4000000 in
set_option maxRecDepth 100000 in
theorem dark_law (A : Option Addr) (c : Nat) (l : List Ac) (after : Int) (W : World) (hA : Acts W A l) (hl : l.length ≤ 9223372036854775807) :
    Calls Try.prog 5 #[.int .i64 after, .slice A l.length c] W fun e W' => e = .returned (.bool true) ∧ Below W.heap.size W W' := by
  have HA := As.mk hA
  clear hA
  obtain ⟨hn, hn30⟩ := kAt_spec 30 after (by omega)
  generalize kAt 30 after = n at *
  have LS := As.mk (lets_start n (by omega))
  go_enter Try.func5, Try.ntmps5
  go_wp2_with fail
  refine (new_yes 4 (by omega) (by omega) W).mono ?_
  rintro e1 w1 ⟨b, rfl, D1, B1, hb⟩
  have hz1 := B1.size
  have HD := As.mk D1
  have HB := As.mk B1
  clear D1 B1 hb
  go_wp2_with fail
  refine (dark_a HD.out n (by omega)).mono ?_
  rintro e1 w2 ⟨rfl, d2, f2⟩
  replace HB := As.mk (HB.out.trans (f2.below (by omega) (fun k h => h)))
  replace HD := As.mk d2
  clear d2 f2 hn
  go_wp2_with fail
  go_loopg [8, 9] l.length (fun gk v8 v9 w' => ∃ (i done : Nat) (s : St), v9 = .int .i64 i ∧ v8 = .int .i64 done ∧ As (gk = l.length - i) ∧ As (i ≤ l.length) ∧ As (i ≤ 60) ∧ As (Lets s n done i) ∧ As (Disk w' (fun k => W.heap.size ≤ k) b 4 s) ∧ As (Below W.heap.size W w'))
  case atStart => exact ⟨0, 0, _, rfl, rfl, ⟨rfl⟩, ⟨Nat.zero_le _⟩, ⟨Nat.zero_le _⟩, LS, HD, HB⟩
  case round =>
    clear HD HB LS
    obtain ⟨i, dn, s, rfl, rfl, HK, HI, HI2, HR, HD, HB⟩ := hrel
    have hdn : dn ≤ n := HR.out.le
    by_cases hi : i < l.length
    · by_cases hi2 : i < 60
      · obtain ⟨ab, ao, rfl, hlt, a0, a1, a2, a3, hf0, hf1, _⟩ := HA.out i hi
        have e0 := (HB.out.cell (p := ⟨ab, ao + i * 4, none⟩) hlt).trans a0
        have e1 := (HB.out.cell (p := ⟨ab, ao + i * 4 + 1, none⟩) hlt).trans a1
        have e3 := (HB.out.cell (p := ⟨ab, ao + i * 4 + 3, none⟩) hlt).trans a3
        have A1 := As.mk a1
        have A3 := As.mk a3
        clear a0 a1 a2 a3
        generalize l[i] = y at *
        obtain ⟨hk, hk4⟩ := kAt_spec 4 y.pos (by omega)
        generalize kAt 4 y.pos = k at *
        obtain ⟨kb, hkb⟩ : ∃ kb, (y.kind.tmod 4 == 3) = kb := ⟨_, rfl⟩
        have hs0 := HB.out.size
        have hid : decide ((i : Int) < 60) = true := decide_eq_true (by omega)
        go_wp2_with fail
        refine (waiting_a HD.out).mono ?_
        rintro e2 w3 ⟨rfl, rfl⟩
        go_upto_if 49 with fail
        clear hid hkb
        obtain ⟨r, dn2, hcm⟩ := comes n dn
        have CM := As.mk hcm
        clear hcm
        go_cut [4, 11] from 50 to 67 (fun v4 v11 wd => ∃ (s' : St), v11 = .int .i64 r ∧ As (Lets s' n dn2 (i + 1)) ∧ As (r = 6 → s'.wait.length = s.wait.length ∧ s'.dark = true) ∧ As (Disk wd (fun k => W.heap.size ≤ k) b 4 s') ∧ As (Below W.heap.size W wd))
        case first =>
          cases kb with
          | true =>
            obtain ⟨s', f1, f2, f3⟩ := flush_lets HR.out CM.out
            have F1 := As.mk f1
            have F2 := As.mk f2
            have F3 := As.mk f3
            clear f1 f2 f3
            go_wp2_with fail
            refine (flush_is (own' := fun k => W.heap.size ≤ k) HD.out r s' F1.out (fun _ h => h) (fun q hq => by omega)).mono ?_
            rintro e0 w3 ⟨rfl, d3, f3⟩
            have D3 := As.mk d3
            have B3 := As.mk (HB.out.trans (f3.below hs0 (fun _ h => h)))
            clear d3 f3
            go_wp2_with fail
            go_meet
            case rel => exact ⟨s', rfl, F2, F3, D3, B3⟩
          | false =>
            obtain ⟨s', f1, f2, f3⟩ := write_lets HR.out CM.out k (by omega) (full64 y.fill) (full_len _)
            have F1 := As.mk f1
            have F2 := As.mk f2
            have F3 := As.mk f3
            clear f1 f2 f3
            go_upto_region 14 with fail
            have hkw : IntKind.i64.wrap (k : Int) = k := by rw [IntKind.wrap_i64]; omega
            have HKW := As.mk hkw
            refine wp_region_plan_held 16 (fun w' => w'.cell? ⟨ab, ao + i * 4 + 1, none⟩ = some (.int .i64 y.pos) ∧ w'.cell? ⟨ab, ao + i * 4 + 3, none⟩ = some (.int .u8 y.fill)) [(1, 0), (1, 1), (1, 2), (1, 3), (1, 4), (0, 5), (1, 6), (1, 7), (1, 8), (1, 9), (1, 10), (1, 11), (1, 12), (0, 13), (2, 14), (2, 15), (2, 16)] (by kernel_rfl) (by kernel_rfl) (by kernel_rfl) (by kernel_rfl) (fun _ _ _ _ _ h => h) ⟨e1, e3⟩ ?_
            simp only [tagged, List.filterMap_cons, List.filterMap_nil, List.getElem?_toArray, List.getElem?_cons_succ, List.getElem?_cons_zero, Option.map_some]
            iterate 5 (refine wpHeld_sure (fun K hK => ?_); go_simp; refine hK _ ?_; clear hK K)
            refine wpHeld_take (fun K hK => ?_)
            rw [if_pos (by rfl)]
            apply Exists.intro
            refine ⟨fun w' hw' => ?_, hK _ ?_⟩
            · obtain ⟨s0, s1⟩ := hw'
              go_simp
              rfl
            clear hK K
            iterate 7 (refine wpHeld_sure (fun K hK => ?_); go_simp; refine hK _ ?_; clear hK K)
            refine wpHeld_take (fun K hK => ?_)
            rw [if_pos (by rfl)]
            apply Exists.intro
            refine ⟨fun w' hw' => ?_, hK _ ?_⟩
            · obtain ⟨s0, s1⟩ := hw'
              go_simp
              rfl
            clear hK K
            refine wpHeld_next (fun K hK => ?_)
            go_simp
            have hd0 : Below wr.heap.size wr wr.drew := (Below.refl _ _).drew
            refine (full_a y.fill _ ⟨hf0, hf1⟩).mono ?_
            rintro e0 w3 ⟨q, p, rfl, bx, hq, hb3⟩
            have hb3 : Below wr.heap.size wr w3 := hd0.trans hb3
            have BX := As.mk bx
            have hs3 := hb3.size
            have HB3 := As.mk (HB.out.trans (hb3.mono hs0))
            have HD3 := As.mk (HD.out.below hb3 (Nat.le_refl _))
            have k1 := (HB3.out.cell (p := ⟨ab, ao + i * 4 + 1, none⟩) hlt).trans A1.out
            have k3 := (HB3.out.cell (p := ⟨ab, ao + i * 4 + 3, none⟩) hlt).trans A3.out
            clear bx hb3 hq e0 e1 e3 hkw hd0
            refine hK _ _ (fun _ => ⟨k1, k3⟩) ?_
            clear hK K k1 k3
            refine wpHeld_next (fun K hK => ?_)
            go_simp
            refine (write_is (own' := fun k => W.heap.size ≤ k) HD3.out k p BX.out (full_len _) (by have := HR.out.wait; omega) r s' F1.out (fun _ h => h) (fun q hq => by omega)).mono ?_
            rintro e0 w4 ⟨rfl, d4, f4⟩
            have D4 := As.mk d4
            have HB4 := As.mk (HB3.out.trans (f4.below (by omega) (fun _ h => h)))
            have k1 := (HB4.out.cell (p := ⟨ab, ao + i * 4 + 1, none⟩) hlt).trans A1.out
            have k3 := (HB4.out.cell (p := ⟨ab, ao + i * 4 + 3, none⟩) hlt).trans A3.out
            clear d4 f4
            refine hK _ _ (fun _ => ⟨k1, k3⟩) ?_
            clear hK K k1 k3
            refine wpHeld_next (fun K hK => ?_)
            go_simp
            refine hK _ _ (fun h => absurd rfl h) ?_
            clear hK K
            refine wpHeld_nil ?_
            go_wp2_with fail
            go_meet
            case rel => exact ⟨s', rfl, F2, F3, D4, HB4⟩
        case rest =>
          obtain ⟨s2, rfl, HR2, HS2, HD2, HB2⟩ := hcut
          clear HD HB e0 e1 e3 A1 A3 HR
          have hs2 := HB2.out.size
          rcases CM.out with ⟨hd, rfl, rfl⟩ | ⟨hd, rfl, rfl⟩
          · clear HS2
            go_wp2_with fail
            go_roundg (l.length - (i + 1))
            case measure => have := HK.out; omega
            case rel => exact ⟨i + 1, dn + 1, s2, by go_num, by go_num, ⟨rfl⟩, ⟨hi⟩, ⟨hi2⟩, HR2, HD2, HB2⟩
          · obtain ⟨hw2, hdk⟩ := HS2.out rfl
            have LA := As.mk (lit_a HD2.out)
            have WA := waiting_a HD2.out
            rw [hw2] at WA
            have WA := As.mk WA
            have hl0 : (!s2.dark) = false := by rw [hdk]; rfl
            have LA := LA.out
            rw [hl0] at LA
            have LA := As.mk LA
            clear HS2 hw2 hdk hl0
            go_wp2_with fail
            refine WA.out.mono ?_
            rintro e0 w5 ⟨rfl, rfl⟩
            go_wp2_with fail
            refine LA.out.mono ?_
            rintro e0 w5 ⟨rfl, rfl⟩
            go_wp2_with fail
            go_roundg (l.length - (i + 1))
            case measure => have := HK.out; omega
            case rel => exact ⟨i + 1, _, s2, by go_num, rfl, ⟨rfl⟩, ⟨hi⟩, ⟨hi2⟩, HR2, HD2, HB2⟩
      · go_upto_region 19 with fail
        have hs0 := HB.out.size
        have hlim := As.mk HR.out.limit
        have hw0 : s.wait.length < 1000000 := by have := HR.out.wait; have := HI2.out; omega
        clear HR
        cases hdk : s.dark with
        | true =>
          have R := As.mk (read_dark HD.out 0 hdk)
          have L := lit_a HD.out
          rw [hdk] at L
          have L := As.mk L
          clear hdk
          go_wp2_with fail
          refine R.out.mono ?_
          rintro e0 w3 ⟨rfl, rfl⟩
          go_wp2_with fail
          refine L.out.mono ?_
          rintro e0 w3 ⟨rfl, rfl⟩
          have hsx := hs0
          have HBX := HB
          have HDX := HD
          go_wp2_with fail
          refine (crash_is (own' := fun k => W.heap.size ≤ k) HDX.out 0 0 hw0 (by omega) _ rfl (fun _ h => h) (fun q hq => by omega)).mono ?_
          rintro e0 w4 ⟨rfl, d4, f4⟩
          have hs4 := f4.low.size
          have HB4 := As.mk (HBX.out.trans (f4.below hsx (fun _ h => h)))
          have HD4 := As.mk d4
          clear d4 f4
          have L4 := As.mk (lit_a HD4.out)
          have W4 := As.mk (write_free (s := crashF s 0 0) rfl rfl (n := 4) (k := 0) (by omega) (by show ((4 : Nat) : Int) ≤ s.limit; have := hlim.out; omega) (full_len 1))
          go_wp2_with fail
          refine L4.out.mono ?_
          rintro e0 w5 ⟨rfl, rfl⟩
          rw [show (!(crashF s 0 0).dark) = true from rfl]
          go_wp2_with fail
          refine (full_a 1 _ (by omega)).mono ?_
          rintro e0 w5 ⟨q, p, rfl, bx, hq, hb5⟩
          have hs5 := hb5.size
          have BX := As.mk bx
          have HB5 := As.mk (HB4.out.trans (hb5.mono (by omega)))
          have HD5 := As.mk (HD4.out.below hb5 (Nat.le_refl _))
          clear bx hb5 hq HB4 HD4
          go_wp2_with fail
          refine (write_is (own' := fun k => W.heap.size ≤ k) HD5.out 0 p BX.out (full_len _) (by show ([] : List Wr).length < _; simp) 0 _ W4.out (fun _ h => h) (fun q hq => by omega)).mono ?_
          rintro e0 w6 ⟨rfl, d6, f6⟩
          have hs6 := f6.low.size
          have HB6 := As.mk (HB5.out.trans (f6.below (by omega) (fun _ h => h)))
          have HD6 := As.mk d6
          clear d6 f6 HB5 HD5 BX
          go_wp2_with fail
          refine (flush_is (own' := fun k => W.heap.size ≤ k) HD6.out 0 _ (flush_free rfl rfl) (fun _ h => h) (fun q hq => by omega)).mono ?_
          rintro e0 w7 ⟨rfl, d7, f7⟩
          have hs7 := f7.low.size
          have HB7 := As.mk (HB6.out.trans (f7.below (by omega) (fun _ h => h)))
          clear d7 f7 HB6 HD6
          go_wp2_with fail
          refine (known_calls _).mono ?_
          rintro e0 w8 ⟨rfl, hb8⟩
          go_wp2_with fail
          go_ret
          exact ⟨rfl, HB7.out.trans (hb8.mono (by omega))⟩
        | false =>
          have h4 : 0 < s.now.length := by rw [HD.out.ok.now]; omega
          obtain ⟨y0, hy0⟩ : ∃ y, s.now[0]? = some y := ⟨_, List.getElem?_eq_getElem h4⟩
          have R := As.mk (read_is HD.out 0 hdk y0 hy0)
          have hdk' := As.mk hdk
          clear hdk h4 hy0
          go_wp2_with fail
          refine R.out.mono ?_
          rintro e0 w3 ⟨g, rfl, hg, hgs, hb3⟩
          have hsx : W.heap.size ≤ w3.heap.size := by have := hb3.size; omega
          have HBX := As.mk (HB.out.trans (hb3.mono hs0))
          have HDX := As.mk (HD.out.below hb3 (Nat.le_refl _))
          have L := lit_a HDX.out
          rw [hdk'.out] at L
          have L := As.mk L
          clear hb3 hg hgs R
          go_wp2_with fail
          refine L.out.mono ?_
          rintro e0 w5 ⟨rfl, rfl⟩
          go_wp2_with fail
          refine (crash_is (own' := fun k => W.heap.size ≤ k) HDX.out 0 0 hw0 (by omega) _ rfl (fun _ h => h) (fun q hq => by omega)).mono ?_
          rintro e0 w4 ⟨rfl, d4, f4⟩
          have hs4 := f4.low.size
          have HB4 := As.mk (HBX.out.trans (f4.below hsx (fun _ h => h)))
          have HD4 := As.mk d4
          clear d4 f4
          have L4 := As.mk (lit_a HD4.out)
          have W4 := As.mk (write_free (s := crashF s 0 0) rfl rfl (n := 4) (k := 0) (by omega) (by show ((4 : Nat) : Int) ≤ s.limit; have := hlim.out; omega) (full_len 1))
          go_wp2_with fail
          refine L4.out.mono ?_
          rintro e0 w5 ⟨rfl, rfl⟩
          rw [show (!(crashF s 0 0).dark) = true from rfl]
          go_wp2_with fail
          refine (full_a 1 _ (by omega)).mono ?_
          rintro e0 w5 ⟨q, p, rfl, bx, hq, hb5⟩
          have hs5 := hb5.size
          have BX := As.mk bx
          have HB5 := As.mk (HB4.out.trans (hb5.mono (by omega)))
          have HD5 := As.mk (HD4.out.below hb5 (Nat.le_refl _))
          clear bx hb5 hq HB4 HD4
          go_wp2_with fail
          refine (write_is (own' := fun k => W.heap.size ≤ k) HD5.out 0 p BX.out (full_len _) (by show ([] : List Wr).length < _; simp) 0 _ W4.out (fun _ h => h) (fun q hq => by omega)).mono ?_
          rintro e0 w6 ⟨rfl, d6, f6⟩
          have hs6 := f6.low.size
          have HB6 := As.mk (HB5.out.trans (f6.below (by omega) (fun _ h => h)))
          have HD6 := As.mk d6
          clear d6 f6 HB5 HD5 BX
          go_wp2_with fail
          refine (flush_is (own' := fun k => W.heap.size ≤ k) HD6.out 0 _ (flush_free rfl rfl) (fun _ h => h) (fun q hq => by omega)).mono ?_
          rintro e0 w7 ⟨rfl, d7, f7⟩
          have hs7 := f7.low.size
          have HB7 := As.mk (HB6.out.trans (f7.below (by omega) (fun _ h => h)))
          clear d7 f7 HB6 HD6
          go_wp2_with fail
          refine (known_calls _).mono ?_
          rintro e0 w8 ⟨rfl, hb8⟩
          go_wp2_with fail
          go_ret
          exact ⟨rfl, HB7.out.trans (hb8.mono (by omega))⟩
    · go_upto_region 19 with fail
      have hs0 := HB.out.size
      have hlim := As.mk HR.out.limit
      have hw0 : s.wait.length < 1000000 := by have := HR.out.wait; have := HI2.out; omega
      clear HR
      cases hdk : s.dark with
      | true =>
        have R := As.mk (read_dark HD.out 0 hdk)
        have L := lit_a HD.out
        rw [hdk] at L
        have L := As.mk L
        clear hdk
        go_wp2_with fail
        refine R.out.mono ?_
        rintro e0 w3 ⟨rfl, rfl⟩
        go_wp2_with fail
        refine L.out.mono ?_
        rintro e0 w3 ⟨rfl, rfl⟩
        have hsx := hs0
        have HBX := HB
        have HDX := HD
        go_wp2_with fail
        refine (crash_is (own' := fun k => W.heap.size ≤ k) HDX.out 0 0 hw0 (by omega) _ rfl (fun _ h => h) (fun q hq => by omega)).mono ?_
        rintro e0 w4 ⟨rfl, d4, f4⟩
        have hs4 := f4.low.size
        have HB4 := As.mk (HBX.out.trans (f4.below hsx (fun _ h => h)))
        have HD4 := As.mk d4
        clear d4 f4
        have L4 := As.mk (lit_a HD4.out)
        have W4 := As.mk (write_free (s := crashF s 0 0) rfl rfl (n := 4) (k := 0) (by omega) (by show ((4 : Nat) : Int) ≤ s.limit; have := hlim.out; omega) (full_len 1))
        go_wp2_with fail
        refine L4.out.mono ?_
        rintro e0 w5 ⟨rfl, rfl⟩
        rw [show (!(crashF s 0 0).dark) = true from rfl]
        go_wp2_with fail
        refine (full_a 1 _ (by omega)).mono ?_
        rintro e0 w5 ⟨q, p, rfl, bx, hq, hb5⟩
        have hs5 := hb5.size
        have BX := As.mk bx
        have HB5 := As.mk (HB4.out.trans (hb5.mono (by omega)))
        have HD5 := As.mk (HD4.out.below hb5 (Nat.le_refl _))
        clear bx hb5 hq HB4 HD4
        go_wp2_with fail
        refine (write_is (own' := fun k => W.heap.size ≤ k) HD5.out 0 p BX.out (full_len _) (by show ([] : List Wr).length < _; simp) 0 _ W4.out (fun _ h => h) (fun q hq => by omega)).mono ?_
        rintro e0 w6 ⟨rfl, d6, f6⟩
        have hs6 := f6.low.size
        have HB6 := As.mk (HB5.out.trans (f6.below (by omega) (fun _ h => h)))
        have HD6 := As.mk d6
        clear d6 f6 HB5 HD5 BX
        go_wp2_with fail
        refine (flush_is (own' := fun k => W.heap.size ≤ k) HD6.out 0 _ (flush_free rfl rfl) (fun _ h => h) (fun q hq => by omega)).mono ?_
        rintro e0 w7 ⟨rfl, d7, f7⟩
        have hs7 := f7.low.size
        have HB7 := As.mk (HB6.out.trans (f7.below (by omega) (fun _ h => h)))
        clear d7 f7 HB6 HD6
        go_wp2_with fail
        refine (known_calls _).mono ?_
        rintro e0 w8 ⟨rfl, hb8⟩
        go_wp2_with fail
        go_ret
        exact ⟨rfl, HB7.out.trans (hb8.mono (by omega))⟩
      | false =>
        have h4 : 0 < s.now.length := by rw [HD.out.ok.now]; omega
        obtain ⟨y0, hy0⟩ : ∃ y, s.now[0]? = some y := ⟨_, List.getElem?_eq_getElem h4⟩
        have R := As.mk (read_is HD.out 0 hdk y0 hy0)
        have hdk' := As.mk hdk
        clear hdk h4 hy0
        go_wp2_with fail
        refine R.out.mono ?_
        rintro e0 w3 ⟨g, rfl, hg, hgs, hb3⟩
        have hsx : W.heap.size ≤ w3.heap.size := by have := hb3.size; omega
        have HBX := As.mk (HB.out.trans (hb3.mono hs0))
        have HDX := As.mk (HD.out.below hb3 (Nat.le_refl _))
        have L := lit_a HDX.out
        rw [hdk'.out] at L
        have L := As.mk L
        clear hb3 hg hgs R
        go_wp2_with fail
        refine L.out.mono ?_
        rintro e0 w5 ⟨rfl, rfl⟩
        go_wp2_with fail
        refine (crash_is (own' := fun k => W.heap.size ≤ k) HDX.out 0 0 hw0 (by omega) _ rfl (fun _ h => h) (fun q hq => by omega)).mono ?_
        rintro e0 w4 ⟨rfl, d4, f4⟩
        have hs4 := f4.low.size
        have HB4 := As.mk (HBX.out.trans (f4.below hsx (fun _ h => h)))
        have HD4 := As.mk d4
        clear d4 f4
        have L4 := As.mk (lit_a HD4.out)
        have W4 := As.mk (write_free (s := crashF s 0 0) rfl rfl (n := 4) (k := 0) (by omega) (by show ((4 : Nat) : Int) ≤ s.limit; have := hlim.out; omega) (full_len 1))
        go_wp2_with fail
        refine L4.out.mono ?_
        rintro e0 w5 ⟨rfl, rfl⟩
        rw [show (!(crashF s 0 0).dark) = true from rfl]
        go_wp2_with fail
        refine (full_a 1 _ (by omega)).mono ?_
        rintro e0 w5 ⟨q, p, rfl, bx, hq, hb5⟩
        have hs5 := hb5.size
        have BX := As.mk bx
        have HB5 := As.mk (HB4.out.trans (hb5.mono (by omega)))
        have HD5 := As.mk (HD4.out.below hb5 (Nat.le_refl _))
        clear bx hb5 hq HB4 HD4
        go_wp2_with fail
        refine (write_is (own' := fun k => W.heap.size ≤ k) HD5.out 0 p BX.out (full_len _) (by show ([] : List Wr).length < _; simp) 0 _ W4.out (fun _ h => h) (fun q hq => by omega)).mono ?_
        rintro e0 w6 ⟨rfl, d6, f6⟩
        have hs6 := f6.low.size
        have HB6 := As.mk (HB5.out.trans (f6.below (by omega) (fun _ h => h)))
        have HD6 := As.mk d6
        clear d6 f6 HB5 HD5 BX
        go_wp2_with fail
        refine (flush_is (own' := fun k => W.heap.size ≤ k) HD6.out 0 _ (flush_free rfl rfl) (fun _ h => h) (fun q hq => by omega)).mono ?_
        rintro e0 w7 ⟨rfl, d7, f7⟩
        have hs7 := f7.low.size
        have HB7 := As.mk (HB6.out.trans (f7.below (by omega) (fun _ h => h)))
        clear d7 f7 HB6 HD6
        go_wp2_with fail
        refine (known_calls _).mono ?_
        rintro e0 w8 ⟨rfl, hb8⟩
        go_wp2_with fail
        go_ret
        exact ⟨rfl, HB7.out.trans (hb8.mono (by omega))⟩
end Go.Proofs.Ytfhnhkjbfaieiaa.Bl
