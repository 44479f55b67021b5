/- Joined by a program: R8A, R8B, R8C, R8D, R8E, R8F, Its8. -/
import Derived.Maps.AppendAt
import Derived.Test.YtbbompmpecblgaaC20
import Derived.Test.YtbbompmpecblgaaC15
section
/- treillageref08: node, Parent, Kids, Attr, Beside. -/
namespace Go.Proofs.Ytbbompmpecblgaa.R8
open Go Go.RowKit Go.Proofs.Ytbbompmpecblgaa.Seq Go.Proofs.Ytbbompmpecblgaa.WS Go.Proofs.Ytbbompmpecblgaa.FS Go.Proofs.Ytbbompmpecblgaa.Mem Go.Proofs.Ytbbompmpecblgaa.Rd Go.Proofs.Ytbbompmpecblgaa.Shapes Go.Proofs.Ytbbompmpecblgaa.Word Go.Proofs.Ytbbompmpecblgaa.FFam Go.Proofs.Ytbbompmpecblgaa.Wk
set_option linter.unusedVariables false
set_option linter.unusedSimpArgs false

theorem node_calls (w : World) (A : Option Addr) (c : Nat) (f : Fo) (i : Int) : Calls Try.prog 81 #[.slice A f.length c, .int .i64 i] w fun e w' => e = .returned (.bool (isNode f i)) ∧ w = w' := by
  cases hn : isNode f i with
  | true =>
    obtain ⟨k, rfl, hk⟩ := node_nat hn
    have h1 : (k : Int) < (f.length : Int) := by omega
    have h0 : ((k : Int) ≥ 0) := by omega
    clear hn
    go_enter Try.func81, Try.ntmps81
    go_wp2_with fail
    go_ret
    exact ⟨by simp; try omega, rfl⟩
  | false =>
    rcases node_no hn with h | ⟨h0, h⟩
    · have h1 : ¬ (0 ≤ i) := by omega
      clear hn
      go_enter Try.func81, Try.ntmps81
      go_wp2_with fail
      go_ret
      exact ⟨by simp; try omega, rfl⟩
    · have h1 : ¬ (i < (f.length : Int)) := by omega
      clear hn
      go_enter Try.func81, Try.ntmps81
      go_wp2_with fail
      go_ret
      exact ⟨by simp; try omega, rfl⟩
theorem Parent_calls (w : World) (v : Value) (f : Fo) (h : RdF w.heap.size w v f) (hm : mayB f = true) (i : Int) : Calls Try.prog 48 #[v, .int .i64 i] w fun e w' => e = .returned (.tuple #[.int .i64 (parentE f i).1, .int .i64 (parentE f i).2]) ∧ w = w' := by
  obtain ⟨A0, c0, rfl, hl0, hc0, h'⟩ := h.form
  simp only [maxLen] at hc0
  have hnd := node_calls w A0 c0 f i
  cases hn : isNode f i with
  | false =>
    rw [hn] at hnd
    have hp : parentE f i = (0, 70) := by unfold parentE; rw [if_pos hn]
    have Hnd := Lib.hid hnd
    clear hnd h h' hn
    rw [hp]
    go_enter Try.func48, Try.ntmps48
    go_wp2_with (go_at_call 81; (with_reducible refine (Hnd.out).mono ?_); rintro e w5 ⟨rfl, rfl⟩)
    go_ret2
    exact ⟨rfl, rfl⟩
  | true =>
    rw [hn] at hnd
    obtain ⟨k, rfl, hk⟩ := node_nat hn
    obtain ⟨b, o, Aa, ca, Ak, ck, rfl, hbl, g0, g1, g2, g3, g4, g5, ra, rk, la, lca, lk, lck, m1, m2, m3, m4⟩ := node_at h' hk
    rw [← at_nat hk] at g4
    obtain ⟨q1, _, _⟩ := (may_is hm).par k hk
    have h1 : (k : Int) < (f.length : Int) := by omega
    have h0 : decide ((k : Int) < 0) = false := by simp
    have Hnd := Lib.hid hnd
    by_cases hp : (at_ f (k : Int)).parent = -1
    · have hp2 : parentE f k = (0, 3) := by unfold parentE; rw [if_neg (by rw [hn]; decide), if_pos hp]
      rw [hp] at g4
      rw [hp2]
      clear hnd h h' hn ra rk la lca lk lck m1 m2 m3 m4 g0 g1 g2 g3 g5 q1 hp hp2
      go_enter Try.func48, Try.ntmps48
      go_wp2_with (go_at_call 81; (with_reducible refine (Hnd.out).mono ?_); rintro e w5 ⟨rfl, rfl⟩)
      go_ret2
      exact ⟨rfl, rfl⟩
    · have hp2 : parentE f k = ((at_ f (k : Int)).parent, 0) := by unfold parentE; rw [if_neg (by rw [hn]; decide), if_neg hp]
      have hp3 : ¬ (at_ f (k : Int)).parent < 0 := by omega
      rw [hp2]
      clear hnd h h' hn ra rk la lca lk lck m1 m2 m3 m4 g0 g1 g2 g3 g5 q1 hp hp2
      go_enter Try.func48, Try.ntmps48
      go_wp2_with (go_at_call 81; (with_reducible refine (Hnd.out).mono ?_); rintro e w5 ⟨rfl, rfl⟩)
      go_ret2
      exact ⟨rfl, rfl⟩
theorem Kids_calls (w : World) (v : Value) (f : Fo) (h : RdF w.heap.size w v f) (i : Int) : Calls Try.prog 49 #[v, .int .i64 i] w fun e w' => ∃ u, e = .returned (.tuple #[u, .int .i64 (kidsE f i).2]) ∧ RdL (intE .i64) 1 w.heap.size w u (kidsE f i).1 ∧ w = w' := by
  obtain ⟨A0, c0, rfl, hl0, hc0, h'⟩ := h.form
  simp only [maxLen] at hc0
  have hnd := node_calls w A0 c0 f i
  cases hn : isNode f i with
  | false =>
    rw [hn] at hnd
    have hp : kidsE f i = ([], 70) := by unfold kidsE; rw [if_pos hn]
    have Hnd := Lib.hid hnd
    clear hnd h h' hn
    rw [hp]
    go_enter Try.func49, Try.ntmps49
    go_wp2_with (go_at_call 81; (with_reducible refine (Hnd.out).mono ?_); rintro e w5 ⟨rfl, rfl⟩)
    go_ret2
    exact ⟨_, rfl, RdL.nil, rfl⟩
  | true =>
    rw [hn] at hnd
    obtain ⟨k, rfl, hk⟩ := node_nat hn
    obtain ⟨b, o, Aa, ca, Ak, ck, rfl, hbl, g0, g1, g2, g3, g4, g5, ra, rk, la, lca, lk, lck, m1, m2, m3, m4⟩ := node_at h' hk
    rw [← at_nat hk] at g5 rk
    have h1 : (k : Int) < (f.length : Int) := by omega
    have h0 : decide ((k : Int) < 0) = false := by simp
    have Hnd := Lib.hid hnd; have Hrk := Lib.hid rk
    have hp2 : kidsE f k = ((at_ f (k : Int)).kids, 0) := by unfold kidsE; rw [if_neg (by rw [hn]; decide)]
    rw [hp2]
    clear hnd h h' hn ra rk la lca lk lck m1 m2 m3 m4 g0 g1 g2 g3 g4 hp2
    go_enter Try.func49, Try.ntmps49
    go_wp2_with (go_at_call 81; (with_reducible refine (Hnd.out).mono ?_); rintro e w5 ⟨rfl, rfl⟩)
    go_ret2
    exact ⟨_, rfl, Hrk.out, rfl⟩
end Go.Proofs.Ytbbompmpecblgaa.R8
end
section
/- treillageref08: Attr, Beside. -/
namespace Go.Proofs.Ytbbompmpecblgaa.R8
open Go Go.RowKit Go.Proofs.Ytbbompmpecblgaa.Seq Go.Proofs.Ytbbompmpecblgaa.WS Go.Proofs.Ytbbompmpecblgaa.FS Go.Proofs.Ytbbompmpecblgaa.Mem Go.Proofs.Ytbbompmpecblgaa.Rd Go.Proofs.Ytbbompmpecblgaa.Shapes Go.Proofs.Ytbbompmpecblgaa.Word Go.Proofs.Ytbbompmpecblgaa.FFam Go.Proofs.Ytbbompmpecblgaa.Wk Go.Proofs.Ytbbompmpecblgaa.FAttr
set_option linter.unusedVariables false
set_option linter.unusedSimpArgs false

theorem find_first {α : Type} {l : List α} {p : α → Bool} {j : Nat} (hj : j < l.length) (hn : ∀ i (hi : i < l.length), i < j → p l[i] = false) (hp : p l[j] = true) : l.find? p = some l[j] := by
  have e : l.find? p = (l.take j ++ l.drop j).find? p := by rw [List.take_append_drop]
  rw [e, List.find?_append, List.drop_eq_getElem_cons hj, List.find?_cons_of_pos hp, List.find?_eq_none.2 (fun x hx => by
    obtain ⟨i, hi, rfl⟩ := List.mem_iff_getElem.1 hx
    rw [List.length_take] at hi
    rw [List.getElem_take, hn i (by omega) (by omega)]
    simp)]
  rfl
theorem find_none {α : Type} {l : List α} {p : α → Bool} (hn : ∀ i (hi : i < l.length), p l[i] = false) : l.find? p = none :=
  List.find?_eq_none.2 (fun x hx => by
    obtain ⟨i, hi, rfl⟩ := List.mem_iff_getElem.1 hx
    rw [hn i hi]; simp)
set_option maxRecDepth 100000 in
set_option maxHeartbeats 4000000 in
theorem Attr_calls (w : World) (v : Value) (f : Fo) (h : RdF w.heap.size w v f) (i : Int) (s : ByteArray) : Calls Try.prog 54 #[v, .int .i64 i, .string s] w fun e w' => e = .returned (.tuple #[.string (attrVal f i s), .int .i64 (attrErr f i s)]) ∧ w = w' := by
  obtain ⟨A0, c0, rfl, hl0, hc0, h'⟩ := h.form
  simp only [maxLen] at hc0
  have hnd := node_calls w A0 c0 f i
  cases hn : isNode f i with
  | false =>
    rw [hn] at hnd
    have hE : attrErr f i s = 70 := by unfold attrErr; rw [if_pos hn]
    have hV := attr_bad hE (by decide)
    have Hnd := Lib.hid hnd
    rw [hE, hV]
    clear hnd h h' hn hE hV
    go_enter Try.func54, Try.ntmps54
    go_wp2_with (go_at_call 81; (with_reducible refine (Hnd.out).mono ?_); rintro e w5 ⟨rfl, rfl⟩)
    go_ret2
    exact ⟨rfl, rfl⟩
  | true =>
    rw [hn] at hnd
    obtain ⟨k, rfl, hk⟩ := node_nat hn
    obtain ⟨b, o, Aa, ca, Ak, ck, rfl, hbl, g0, g1, g2, g3, g4, g5, ra, rk, la, lca, lk, lck, m1, m2, m3, m4⟩ := node_at h' hk
    rw [← at_nat hk] at g0 g3 ra la
    simp only [maxLen] at lca
    have h1 : (k : Int) < (f.length : Int) := by omega
    have h0 : decide ((k : Int) < 0) = false := by simp
    have Hnd := Lib.hid hnd; have Hra := Lib.hid ra
    by_cases hp : (at_ f (k : Int)).kind = 1
    · rw [hp] at g0
      have hfin : ∀ o, ((at_ f (k : Int)).attrs.find? (fun a => decide (a.name = s))) = o → attrErr f k s = (if o.isSome then 0 else 75) ∧ attrVal f k s = (o.map (·.value)).getD ⟨#[]⟩ := fun o ho => by
        have he : attrErr f k s = (if o.isSome then 0 else 75) := by
          unfold attrErr attrV
          rw [if_neg (by rw [hn]; decide), if_neg (fun x => x hp), ho]
          cases o <;> rfl
        refine ⟨he, ?_⟩
        unfold attrVal attrV
        rw [he, ho]
        cases o <;> rfl
      obtain ⟨l, hl⟩ : ∃ l, l = (at_ f (k : Int)).attrs := ⟨_, rfl⟩
      rw [← hl] at g3 Hra la hfin
      have Hfin := Lib.hid hfin
      clear hnd h h' hn ra rk lk lck m1 m2 m3 m4 g1 g2 g4 g5 hp hfin hl
      go_enter Try.func54, Try.ntmps54
      go_wp2_with (go_at_call 81; (with_reducible refine (Hnd.out).mono ?_); rintro e w5 ⟨rfl, rfl⟩)
      go_loopw [8] (fun i wr => ∃ j : Nat, j ≤ l.length ∧ i = .int .i64 j ∧ wr = w ∧ Hid (∀ x (hx : x < l.length), x < j → decide (l[x].name = s) = false)) (fun i _ => l.length - (intOf i).toNat)
      case atStart => exact ⟨0, Nat.zero_le _, rfl, rfl, Lib.hid (fun x _ h => absurd h (Nat.not_lt_zero _))⟩
      case round =>
        obtain ⟨j, hj, rfl, rfl, hno⟩ := hrel
        by_cases hjl : j < l.length
        · obtain ⟨b2, o2, rfl, _, q0, q1, _, _⟩ := attr_at Hra.out hjl
          have hjl' : (j : Int) < (l.length : Int) := by omega
          have hj0 : decide ((j : Int) < 0) = false := by simp
          by_cases hx : l[j].name = s
          · obtain ⟨f1, f2⟩ := Hfin.out _ (find_first hjl hno.out (decide_eq_true hx))
            simp only [Option.isSome_some, if_true, Option.map_some, Option.getD_some] at f1 f2
            have F1 := Lib.hid f1; have F2 := Lib.hid f2
            rw [hx] at q0
            clear f1 f2 hx
            generalize l[j].value = vv at *
            go_wp2_with fail
            go_ret2
            exact ⟨ret_si F2.out.symm F1.out.symm, rfl⟩
          · have hx2 : (l[j].name.toList == s.toList) = false := by rw [FSame.str_beq]; exact decide_eq_false hx
            have hno2 : ∀ x (hx : x < l.length), x < j + 1 → decide (l[x].name = s) = false := fun x hxl hxj => by
              by_cases e : x = j
              · subst e; exact decide_eq_false hx
              · exact hno.out x hxl (by omega)
            have Hno2 := Lib.hid hno2
            clear hno2
            generalize l[j].name = nn at *
            go_wp2_with fail
            go_roundw
            case rel => exact ⟨j + 1, by omega, by go_num, trivial, Hno2⟩
            case measure => simp [intOf]; omega
        · obtain rfl : j = l.length := by omega
          obtain ⟨f1, f2⟩ := Hfin.out _ (find_none (fun x hx => hno.out x hx hx))
          simp only [Option.isSome_none, Bool.false_eq_true, if_false, Option.map_none, Option.getD_none] at f1 f2
          have F1 := Lib.hid f1; have F2 := Lib.hid f2
          clear f1 f2
          go_wp2_with fail
          go_ret2
          exact ⟨ret_si F2.out.symm F1.out.symm, rfl⟩
    · have hE : attrErr f k s = 71 := by unfold attrErr; rw [if_neg (by rw [hn]; decide), if_pos hp]
      have hV := attr_bad hE (by decide)
      have hp1 : ((at_ f (k : Int)).kind != 1) = true := by rw [bne_iff_ne]; exact hp
      rw [hE, hV]
      clear hnd h h' hn ra rk lk lck m1 m2 m3 m4 g1 g2 g4 g5 hE hV
      go_enter Try.func54, Try.ntmps54
      go_wp2_with (go_at_call 81; (with_reducible refine (Hnd.out).mono ?_); rintro e w5 ⟨rfl, rfl⟩)
      go_ret2
      exact ⟨rfl, rfl⟩
end Go.Proofs.Ytbbompmpecblgaa.R8
end
section
/- treillageref08: Beside. -/
namespace Go.Proofs.Ytbbompmpecblgaa.R8
open Go Go.RowKit Go.Proofs.Ytbbompmpecblgaa.Seq Go.Proofs.Ytbbompmpecblgaa.WS Go.Proofs.Ytbbompmpecblgaa.FS Go.Proofs.Ytbbompmpecblgaa.Mem Go.Proofs.Ytbbompmpecblgaa.Rd Go.Proofs.Ytbbompmpecblgaa.Shapes Go.Proofs.Ytbbompmpecblgaa.Word Go.Proofs.Ytbbompmpecblgaa.FFam Go.Proofs.Ytbbompmpecblgaa.Wk
set_option linter.unusedVariables false
set_option linter.unusedSimpArgs false
theorem ret_ii2 {a c : Int × Int} (h : a = c) : Ending.returned (.tuple #[.int .i64 a.1, .int .i64 a.2]) = .returned (.tuple #[.int .i64 c.1, .int .i64 c.2]) := by rw [h]
set_option maxRecDepth 100000 in
set_option maxHeartbeats 4000000 in
theorem Beside_calls (w : World) (v : Value) (f : Fo) (h : RdF w.heap.size w v f) (hm : mayB f = true) (i d : Int) : Calls Try.prog 50 #[v, .int .i64 i, .int .i64 d] w fun e w' => e = .returned (.tuple #[.int .i64 (besideE f i d).1, .int .i64 (besideE f i d).2]) ∧ w = w' := by
  have hpc := Parent_calls w v f h hm i
  obtain ⟨A0, c0, rfl, hl0, hc0, h'⟩ := h.form
  simp only [maxLen] at hc0
  cases hn : isNode f i with
  | false =>
    rw [show parentE f i = (0, 70) by unfold parentE; rw [if_pos hn]] at hpc
    have hb : besideE f i d = (0, 70) := by unfold besideE; rw [if_pos hn]
    have Hpc := Lib.hid hpc
    rw [hb]
    clear hpc h h' hn hb
    go_enter Try.func50, Try.ntmps50
    go_wp2_with (go_at_call 48; (with_reducible refine (Hpc.out).mono ?_); rintro e w5 ⟨rfl, rfl⟩)
    go_ret2
    exact ⟨rfl, rfl⟩
  | true =>
    obtain ⟨k, rfl, hk⟩ := node_nat hn
    obtain ⟨q1, q2, q3⟩ := (may_is hm).par k hk
    by_cases hp : (at_ f (k : Int)).parent = -1
    · rw [show parentE f k = (0, 3) by unfold parentE; rw [if_neg (by rw [hn]; decide), if_pos hp]] at hpc
      have hb : besideE f k d = (0, 3) := by unfold besideE; rw [if_neg (by rw [hn]; decide), if_pos hp]
      have Hpc := Lib.hid hpc
      rw [hb]
      clear hpc h h' hn hb hp q1 q2 q3
      go_enter Try.func50, Try.ntmps50
      go_wp2_with (go_at_call 48; (with_reducible refine (Hpc.out).mono ?_); rintro e w5 ⟨rfl, rfl⟩)
      go_ret2
      exact ⟨rfl, rfl⟩
    · have hpn : isNode f (at_ f (k : Int)).parent = true := (node_iff _ _).2 ⟨by omega, by omega⟩
      have hc := q3 (by omega)
      rw [show parentE f k = ((at_ f (k : Int)).parent, 0) by unfold parentE; rw [if_neg (by rw [hn]; decide), if_neg hp]] at hpc
      obtain ⟨p, hpe⟩ : ∃ p : Nat, (at_ f (k : Int)).parent = p := ⟨(at_ f (k : Int)).parent.toNat, by omega⟩
      rw [hpe] at hpc hpn hc
      have hpl : p < f.length := by omega
      have hmem : (k : Int) ∈ (at_ f (p : Int)).kids := List.count_pos_iff.1 (by omega)
      obtain ⟨j, hj, _, hjk⟩ := idxL_mem hmem
      have hkl := kids_len hm hpn
      have hnod := kids_nodup (may_is hm).fam hpn
      have hok : ∀ m (hm' : m < (at_ f (p : Int)).kids.length), (j : Int) + d = m → besideE f k d = ((at_ f (p : Int)).kids[m], 0) := fun m hm' hd => by rw [← hjk]; exact bes_ok (may_is hm) hpn hj d m hm' hd
      have hno : ¬ (0 ≤ (j : Int) + d ∧ (j : Int) + d < (at_ f (p : Int)).kids.length) → besideE f k d = (0, 3) := fun hd => by rw [← hjk]; exact bes_err (may_is hm) hpn hj d (by omega)
      obtain ⟨b, o, Aa, ca, Ak, ck, rfl, hbl, g0, g1, g2, g3, g4, g5, ra, rk, la, lca, lk, lck, m1, m2, m3, m4⟩ := node_at h' hpl
      rw [← at_nat hpl] at g5 rk lk
      simp only [maxLen] at lck
      obtain ⟨K, hK⟩ : ∃ K, K = (at_ f (p : Int)).kids := ⟨_, rfl⟩
      have hok2 : ∀ m (hm' : m < K.length), (j : Int) + d = m → besideE f k d = (K[m], 0) := by subst hK; exact hok
      have hjk2 : ∀ (hj : j < K.length), K[j] = (k : Int) := by subst hK; exact fun _ => hjk
      rw [← hK] at hj hnod hno g5 rk lk hkl
      have hpl' : (p : Int) < (f.length : Int) := by omega
      have hp0 : decide ((p : Int) < 0) = false := by simp
      have Hpc := Lib.hid hpc; have Hok := Lib.hid hok2; have Hno := Lib.hid hno; have Hnod := Lib.hid hnod; have Hjk := Lib.hid (hjk2 hj); have Hrk := Lib.hid rk
      clear hpc h h' hn hp hok hok2 hno hnod hjk hjk2 hmem hc q1 q2 q3 hpn ra rk la lca m1 m2 m3 m4 g0 g1 g2 g3 g4 hpe hK
      go_enter Try.func50, Try.ntmps50
      go_wp2_with (go_at_call 48; (with_reducible refine (Hpc.out).mono ?_); rintro e w5 ⟨rfl, rfl⟩)
      go_loopw [11, 12] (fun i _ wr => ∃ x : Nat, x ≤ K.length ∧ i = .int .i64 x ∧ wr = w ∧ Hid (j < x → ¬ (0 ≤ (j : Int) + d ∧ (j : Int) + d < K.length))) (fun i _ _ => K.length - (intOf i).toNat)
      case atStart => exact ⟨0, Nat.zero_le _, rfl, rfl, Lib.hid (fun h => absurd h (Nat.not_lt_zero _))⟩
      case round =>
        obtain ⟨x, hx, rfl, rfl, hH⟩ := hrel
        by_cases hxl : x < K.length
        · have hxl' : (x : Int) < (K.length : Int) := by omega
          have hx0 : decide ((x : Int) < 0) = false := by simp
          go_wp2_with fail
          go_loopw [12] (fun i wr' => ∃ y : Nat, y ≤ K.length ∧ i = .int .i64 y ∧ wr' = wr ∧ Hid (x = j → ¬ (0 ≤ (j : Int) + d ∧ (j : Int) + d < y))) (fun i _ => K.length - (intOf i).toNat)
          case atStart => exact ⟨0, Nat.zero_le _, rfl, rfl, Lib.hid (fun _ h => by omega)⟩
          case round =>
            obtain ⟨y, hy, rfl, rfl, hY⟩ := hrel
            by_cases hyl : y < K.length
            · have hyl' : (y : Int) < (K.length : Int) := by omega
              have hy0 : decide ((y : Int) < 0) = false := by simp
              obtain ⟨b', o', rfl, _, q0, _⟩ := intE_at Hrk.out hxl
              obtain ⟨b2, o2, he, _, q1, _⟩ := intE_at Hrk.out hyl
              injection he with he
              injection he with he he' _
              subst he he'
              by_cases hhit : x = j ∧ (y : Int) - (x : Int) = d
              · obtain ⟨rfl, hd⟩ := hhit
                have hb := Hok.out y hyl (by omega)
                have hj' := Hjk.out
                rw [hj'] at q0
                have Hb := Lib.hid hb
                clear hb hj'
                generalize K[y] = ky at *
                go_wp2_with fail
                go_ret2
                exact ⟨(ret_ii2 Hb.out).symm, rfl⟩
              · have hnext : Hid (x = j → ¬ (0 ≤ (j : Int) + d ∧ (j : Int) + d < ((y + 1 : Nat) : Int))) := Lib.hid (fun e h => by
                  have := hY.out e
                  exact hhit ⟨e, by omega⟩)
                by_cases hxj : x = j
                · subst hxj
                  have hj' := Hjk.out
                  rw [hj'] at q0
                  have hd2 : ((y : Int) - (x : Int) == d) = false := by rw [beq_eq_false_iff_ne]; exact fun e => hhit ⟨rfl, e⟩
                  clear hhit hj'
                  go_wp2_with fail
                  go_roundw
                  case rel => exact ⟨y + 1, by omega, by go_num, trivial, Lib.hid (fun _ => hnext.out rfl)⟩
                  case measure => simp [intOf]; omega
                · have hne : (K[x] == (k : Int)) = false := by
                    rw [beq_eq_false_iff_ne]
                    intro e
                    exact hxj ((List.getElem_inj Hnod.out).1 (e.trans Hjk.out.symm))
                  clear hhit
                  generalize K[x] = kx at *
                  go_wp2_with fail
                  go_roundw
                  case rel => exact ⟨y + 1, by omega, by go_num, trivial, hnext⟩
                  case measure => simp [intOf]; omega
            · obtain rfl : y = K.length := by omega
              go_wp2_with fail
              go_roundw
              case rel => exact ⟨x + 1, by omega, by go_num, trivial, Lib.hid (fun h => by
                by_cases e : x = j
                · exact hY.out e
                · exact hH.out (by omega))⟩
              case measure => simp [intOf]; omega
        · obtain rfl : x = K.length := by omega
          have hb := Hno.out (hH.out hj)
          have Hb := Lib.hid hb
          clear hb
          go_wp2_with fail
          go_ret2
          exact ⟨(ret_ii2 Hb.out).symm, rfl⟩
end Go.Proofs.Ytbbompmpecblgaa.R8
end
section
/- treillageref08: order, Order, Content, ById. -/
namespace Go.Proofs.Ytbbompmpecblgaa.R8
open Go Go.RowKit Go.Proofs.Ytbbompmpecblgaa.Seq Go.Proofs.Ytbbompmpecblgaa.WS Go.Proofs.Ytbbompmpecblgaa.FS Go.Proofs.Ytbbompmpecblgaa.Mem Go.Proofs.Ytbbompmpecblgaa.Rd Go.Proofs.Ytbbompmpecblgaa.Shapes Go.Proofs.Ytbbompmpecblgaa.Word Go.Proofs.Ytbbompmpecblgaa.FFam Go.Proofs.Ytbbompmpecblgaa.Wk
set_option linter.unusedVariables false
set_option linter.unusedSimpArgs false
set_option maxRecDepth 100000 in
theorem pl_cat {ops : Array Oper} {rest : List Oper} {o : Oper} {a : Act} {Q : Exit → Act → World → Prop} (W : World) (hgd : o.guard = none) (s x : Operand)
    (ho : o.op = .call { callee := .builtin .append, args := #[s, x], argTypes := #[40, 40] }) (B : Nat) (v : Value) (M : List Int) (hs : a.eval s = v) (hown : W.ownsRow B 3 1 v M.length (M.map (Value.int .i64)))
    (A : Option Addr) (c : Nat) (L : List Int) (hx : a.eval x = .slice A L.length c) (hr : RdL (intE .i64) 1 W.heap.size W (.slice A L.length c) L) (h0 : 0 < L.length) (hlen : M.length + L.length ≤ 1000) (hB : B ≤ W.heap.size)
    (h : ∀ v' w1, w1.ownsRow B 3 1 v' (M ++ L).length ((M ++ L).map (Value.int .i64)) → Below B W w1 → wpList Try.prog ops Q rest (a.put o.dst v') w1) :
    wpList Try.prog ops Q (o :: rest) a W := by
  obtain ⟨i0, hi, hz0, hz1, hz2⟩ := info_parts info_int
  obtain ⟨b, off, rfl, _, _, _⟩ := intE_at hr h0
  have hcell : ∀ j (hj : j < L.length), W.cell? ⟨b, off + j, none⟩ = some (.int .i64 L[j]) := fun j hj => by
    obtain ⟨b', o', he, _, q, _⟩ := intE_at hr hj
    injection he with he
    injection he with he he' _
    subst he he'
    exact q
  refine wpList_append_own_at (w := W) hgd s x 40 ho B 3 i0 _ 1 8 Try.underlying40 hi hz0 hz1 hz2 rfl (by decide) v M.length (M.map (Value.int .i64)) hs hown ⟨b, off, none⟩ L.length c (L.map (Value.int .i64)) hx (by simp) (fun j u hj => ?_) (fun u hu => ?_) (by simp only [maxLen]; omega) (by omega) hB ?_
  · rw [Addr.add_lit]
    rw [List.getElem?_map] at hj
    obtain ⟨y, hy, rfl⟩ := Option.map_eq_some_iff.1 hj
    obtain ⟨hjl, rfl⟩ := List.getElem?_eq_some_iff.1 hy
    exact hcell j hjl
  · obtain ⟨y, _, rfl⟩ := List.mem_map.1 hu
    rfl
  · intro v' w' ho' hg' hnil hat
    refine h v' w' (by rw [List.length_append, List.map_append]; exact ho') ((Off.grown (Y := fun b => B ≤ b) hg' (fun r hr => (hown.lt r hr).1)).toBelow hB (fun b hb => hb))
set_option maxRecDepth 100000 in
set_option maxHeartbeats 4000000 in
theorem order_calls (f : Fo) (hm : mayB f = true) (i : Int) (hi : isNode f i = true) : ∀ (w : World) (v : Value), RdF w.heap.size w v f → Calls Try.prog 82 #[v, .int .i64 i] w fun e w' => ∃ u, e = .returned u ∧ RdL (intE .i64) 1 w'.heap.size w' u (order f i) ∧ Below w.heap.size w w' := by
  refine down_ind (may_is hm).fam (may_is hm).climb (P := fun i => isNode f i = true → ∀ (w : World) (v : Value), RdF w.heap.size w v f → Calls Try.prog 82 #[v, .int .i64 i] w fun e w' => ∃ u, e = .returned u ∧ RdL (intE .i64) 1 w'.heap.size w' u (order f i) ∧ Below w.heap.size w w') (fun i _ ih hi w v h => ?_) hi hi
  obtain ⟨A0, c0, rfl, hl0, hc0, h'⟩ := h.form
  simp only [maxLen] at hc0
  obtain ⟨k, rfl, hlt⟩ := node_nat hi
  have hr := fun w' (hb : Below w.heap.size w w') => (h'.below nodeE_keeps (w' := w') hb (Nat.le_refl _)).mono nodeE_keeps hb.size
  have hlt' : (k : Int) < (f.length : Int) := by omega
  have hd0 : decide ((k : Int) < 0) = false := by simp
  have hoe := order_eq (may_is hm).fam (may_is hm).climb hi
  have hol := order_len (may_is hm).fam (may_is hm).climb hi
  have hl60 := (may_is hm).len
  have hkl := kids_len hm hi
  obtain ⟨b, o, Aa, ca, Ak, ck, rfl, hbl, g0, g1, g2, g3, g4, g5, ra, rk, la, lca, lk, lck, m1, m2, m3, m4⟩ := node_at h' hlt
  rw [← at_nat hlt] at g5 rk lk
  simp only [maxLen] at lck
  obtain ⟨K, hK⟩ : ∃ K, K = (at_ f (k : Int)).kids := ⟨_, rfl⟩
  rw [← hK] at g5 rk lk hkl hoe
  have hkid : ∀ x ∈ K, isNode f x = true := fun x hx => ((may_is hm).kids k hlt x (by rw [← hK]; exact hx)).1
  have ih2 : ∀ x ∈ K, ∀ (w : World) (v : Value), RdF w.heap.size w v f → Calls Try.prog 82 #[v, .int .i64 x] w fun e w' => ∃ u, e = .returned u ∧ RdL (intE .i64) 1 w'.heap.size w' u (order f x) ∧ Below w.heap.size w w' := fun x hx => ih x (by rw [← hK]; exact hx) (hkid x hx)
  obtain ⟨w9, hw9⟩ : ∃ w9, w.alloc (.cells #[.int .i64 (k : Int)] 3) = w9 := ⟨_, rfl⟩
  have hown9 : w9.ownsRow w.heap.size 3 1 (.slice (some ⟨w.heap.size, 0, none⟩) 1 1) 1 [.int .i64 (k : Int)] := by rw [← hw9]; exact World.ownsRow_lit (base := w.heap.size) (e := 3) (size := 1) w #[.int .i64 (k : Int)] 1 (Nat.le_refl _) (by simp [maxLen]) rfl
  have hb9 : Below w.heap.size w w9 := by rw [← hw9]; exact (Below.refl _ _).alloc (Nat.le_refl _) _
  have hg5 := fun w' (hb : Below w.heap.size w w') => cell_grow hb g5
  have hwfo := order_wf hm hi
  have Hw9 := Lib.hid hw9; have Hown9 := Lib.hid hown9; have Hb9 := Lib.hid hb9; have HR := Lib.hid hr; have Hoe := Lib.hid hoe; have Hkid := Lib.hid hkid; have Ih := Lib.hid ih2; have Hrk := Lib.hid rk; have Hg5 := Lib.hid hg5; have Hwf := Lib.hid hwfo
  clear hw9 hown9 hb9 hr hoe hkid ih ih2 rk hg5 g5 hwfo h h' hK ra la lca m1 m2 m3 m4 g0 g1 g2 g3 g4
  go_enter Try.func82, Try.ntmps82
  go_upto_region 2 with fail
  rw [Hw9.out]
  go_wp2_with fail
  go_loopw [5, 6] (fun want i wx => ∃ j : Nat, j ≤ K.length ∧ i = .int .i64 j ∧ Hid (wx.ownsRow w.heap.size 3 1 want ((k : Int) :: (K.take j).flatMap (order f)).length (((k : Int) :: (K.take j).flatMap (order f)).map (Value.int .i64))) ∧ Hid (Below w.heap.size w wx)) (fun _ i _ => K.length - (intOf i).toNat)
  case atStart => exact ⟨0, Nat.zero_le _, rfl, Hown9, Hb9⟩
  case round =>
    obtain ⟨j, hj, rfl, Hown, Hbx⟩ := hrel
    have p5 := Hg5.out wr Hbx.out
    by_cases hjl : j < K.length
    · have hjl' : (j : Int) < (K.length : Int) := by omega
      have hj0 : decide ((j : Int) < 0) = false := by simp
      have hrk := Hrk.out.below (intE_keeps _) Hbx.out (Nat.le_refl _)
      obtain ⟨b8, o8, rfl, _, g1, _⟩ := intE_at hrk hjl
      have hoj := Ih.out K[j] (List.getElem_mem hjl) wr _ (HR.out wr Hbx.out)
      have hob := order_eq (may_is hm).fam (may_is hm).climb (Hkid.out _ (List.getElem_mem hjl))
      have htk : (k : Int) :: (K.take (j + 1)).flatMap (order f) = ((k : Int) :: (K.take j).flatMap (order f)) ++ order f K[j] := by
        rw [List.take_succ_eq_append_getElem hjl, List.flatMap_append]; simp
      have hpre : ((k : Int) :: (K.take (j + 1)).flatMap (order f)).length ≤ 60 := by
        have e : (order f (k : Int)).length = ((k : Int) :: K.flatMap (order f)).length := by rw [Hoe.out]
        have e2 : K.flatMap (order f) = (K.take (j + 1)).flatMap (order f) ++ (K.drop (j + 1)).flatMap (order f) := by rw [← List.flatMap_append, List.take_append_drop]
        rw [e2] at e
        simp only [List.length_cons, List.length_append] at e ⊢
        omega
      obtain ⟨M, hM⟩ : ∃ M, M = (k : Int) :: (K.take j).flatMap (order f) := ⟨_, rfl⟩
      rw [htk, ← hM, List.length_append] at hpre
      rw [← hM] at htk Hown
      have h0N : 0 < (order f K[j]).length := by rw [hob]; simp
      have Hoj := Lib.hid hoj; have Htk := Lib.hid htk
      clear hoj htk hrk hob hM
      obtain ⟨N, hN⟩ : ∃ N, N = order f K[j] := ⟨_, rfl⟩
      rw [← hN] at Hoj Htk h0N hpre
      clear hN
      generalize K[j] = y at *
      have hwb : w.heap.size ≤ wr.heap.size := Hbx.out.size
      obtain ⟨Aw, cw, rfl⟩ := LShown.slice_of Hown.out
      go_wp2_with (first
        | (go_at_call 82; (with_reducible refine (Hoj.out).mono ?_); rintro e w10 ⟨v10, rfl, hr10, hb10⟩; obtain ⟨A10, c10, rfl, hl10, hc10, hr10'⟩ := hr10.form; simp only [maxLen] at hc10; have own10 := own_keep (w' := w10) Hown.out (fun g hg => hb10.block g (Hown.out.lt g hg).2); have hs10 : w.heap.size ≤ w10.heap.size := Nat.le_trans hwb hb10.size; have Hr10 := Lib.hid hr10'; have Hb10 := Lib.hid hb10; have Hown10 := Lib.hid own10; clear hr10 hr10' hb10 own10)
        | (at_builtin; go_loud (refine pl_cat w10 rfl _ _ rfl w.heap.size (.slice Aw M.length cw) M rfl Hown10.out A10 c10 N rfl Hr10.out h0N (by omega) hs10 ?_; intro v12 w12 ho12 hb12)))
      go_roundw
      case rel => exact ⟨j + 1, by omega, by go_num, Lib.hid (by rw [Htk.out]; exact ho12), Lib.hid ((bthen Hbx.out Hb10.out).trans hb12)⟩
      case measure => simp [intOf]; omega
    · obtain rfl : j = K.length := by omega
      rw [List.take_length, ← Hoe.out] at Hown
      go_wp2_with fail
      go_ret
      have hown' := Hown.out
      exact ⟨_, rfl, RdL.of_own (xs := (order f (k : Int)).map (Value.int .i64)) hown' rfl (fun g hg => (hown'.lt g hg).2) (fun i hi => ⟨by rw [Nat.mul_one, List.drop_eq_getElem_cons (by simpa using hi)]; simp, Hwf.out _ (List.getElem_mem hi)⟩), Hbx.out⟩
end Go.Proofs.Ytbbompmpecblgaa.R8
end
section
/- treillageref08: Order, Content, ById. -/
namespace Go.Proofs.Ytbbompmpecblgaa.R8
open Go Go.RowKit Go.Proofs.Ytbbompmpecblgaa.Seq Go.Proofs.Ytbbompmpecblgaa.WS Go.Proofs.Ytbbompmpecblgaa.FS Go.Proofs.Ytbbompmpecblgaa.Mem Go.Proofs.Ytbbompmpecblgaa.Rd Go.Proofs.Ytbbompmpecblgaa.Shapes Go.Proofs.Ytbbompmpecblgaa.Word Go.Proofs.Ytbbompmpecblgaa.FFam Go.Proofs.Ytbbompmpecblgaa.Wk
set_option linter.unusedVariables false
set_option linter.unusedSimpArgs false
theorem Order_calls (w : World) (v : Value) (f : Fo) (h : RdF w.heap.size w v f) (hm : mayB f = true) (i : Int) : Calls Try.prog 52 #[v, .int .i64 i] w (OrderPost f i w) := by
  obtain ⟨A0, c0, rfl, hl0, hc0, h'⟩ := h.form
  have hnd := node_calls w A0 c0 f i
  unfold OrderPost
  cases hn : isNode f i with
  | false =>
    rw [hn] at hnd
    have hE : nodeErr f i = 70 := by unfold nodeErr; rw [hn]; rfl
    have hO : orderL f i = [] := by unfold orderL; rw [hn]; rfl
    rw [hE, hO]
    have Hnd := Lib.hid hnd
    clear hnd h h' hn hE hO hc0
    go_enter Try.func52, Try.ntmps52
    go_wp2_with (go_at_call 81; (with_reducible refine (Hnd.out).mono ?_); rintro e w5 ⟨rfl, rfl⟩)
    go_ret2
    exact ⟨_, rfl, RdL.nil, Below.refl _ _⟩
  | true =>
    rw [hn] at hnd
    have ho := order_calls f hm i hn w _ h
    have hE : nodeErr f i = 0 := by unfold nodeErr; rw [hn]; rfl
    have hO : orderL f i = order f i := by unfold orderL; rw [hn]; rfl
    rw [hE, hO]
    have Hnd := Lib.hid hnd; have Ho := Lib.hid ho
    clear hnd h h' hn hE hO hc0 ho
    go_enter Try.func52, Try.ntmps52
    go_wp2_with (first
      | (go_at_call 81; (with_reducible refine (Hnd.out).mono ?_); rintro e w5 ⟨rfl, rfl⟩)
      | (go_at_call 82; (with_reducible refine (Ho.out).mono ?_); rintro e w6 ⟨v6, rfl, hr6, hb6⟩; have Hr6 := Lib.hid hr6; have Hb6 := Lib.hid hb6; clear hr6 hb6))
    go_ret2
    exact ⟨_, rfl, Hr6.out, Hb6.out⟩
set_option maxRecDepth 100000 in
set_option maxHeartbeats 4000000 in
theorem Content_calls (w : World) (v : Value) (f : Fo) (h : RdF w.heap.size w v f) (hm : mayB f = true) (i : Int) : Calls Try.prog 53 #[v, .int .i64 i] w (ContentPost f i w) := by
  have ho := Order_calls w v f h hm i
  obtain ⟨A0, c0, rfl, hl0, hc0, h'⟩ := h.form
  simp only [maxLen] at hc0
  have hr := fun w' (hb : Below w.heap.size w w') => h'.below nodeE_keeps (w' := w') hb (Nat.le_refl _)
  have hC : contentO f i = (orderL f i).flatMap (ownT f) := by
    unfold contentO orderL contentL
    split <;> rfl
  have hall : ∀ x ∈ orderL f i, isNode f x = true := by
    unfold orderL
    intro x hx
    split at hx
    · rename_i hi
      exact ((order_mem (may_is hm) hi x).1 hx).1
    · cases hx
  have hlen : (orderL f i).length ≤ 60 := by
    unfold orderL
    have := (may_is hm).len
    split
    · rename_i hi
      have := order_len (may_is hm).fam (may_is hm).climb hi
      omega
    · simp
  unfold OrderPost at ho
  unfold ContentPost
  rw [hC]
  generalize orderL f i = L at *
  generalize nodeErr f i = E at *
  have Ho := Lib.hid ho; have HR := Lib.hid hr; have Hall := Lib.hid hall
  clear ho hr hall hC h h'
  go_enter Try.func53, Try.ntmps53
  go_upto_region 2 with (go_at_call 52; (with_reducible refine (Ho.out).mono ?_); rintro e w8 ⟨v8, rfl, hr8, hb8⟩; have Hr8 := Lib.hid hr8; have Hb8 := Lib.hid hb8; clear hr8 hb8)
  obtain ⟨A8, c8, rfl, hl8, hc8, hr8⟩ := Hr8.out.form
  simp only [maxLen] at hc8
  have Hr := Lib.hid hr8
  clear hr8 Hr8
  go_wp2_with fail
  go_loopw [8, 9] (fun s i wr => ∃ (j : Nat) (U : ByteArray), j ≤ L.length ∧ i = .int .i64 j ∧ s = .string U ∧ Hid (U.data.toList = (L.take j).flatMap (ownT f)) ∧ wr = w8) (fun _ i _ => L.length - (intOf i).toNat)
  case atStart => exact ⟨0, ⟨#[]⟩, Nat.zero_le _, rfl, rfl, Lib.hid (by rw [List.take_zero]; rfl), rfl⟩
  case round =>
    obtain ⟨j, U, hj, rfl, rfl, hU, rfl⟩ := hrel
    by_cases hjl : j < L.length
    · have hjl' : (j : Int) < (L.length : Int) := by omega
      have hj0 : decide ((j : Int) < 0) = false := by simp
      obtain ⟨b8, o8, rfl, _, g1, _⟩ := intE_at Hr.out hjl
      obtain ⟨x, hx, hxl⟩ := node_nat (Hall.out _ (List.getElem_mem hjl))
      have htk : L.take (j + 1) = L.take j ++ [(x : Int)] := by rw [← hx]; exact List.take_succ_eq_append_getElem hjl
      rw [hx] at g1
      obtain ⟨b, o, Aa, ca, Ak, ck, rfl, hbl, g0, _, g2, _, _, _, _, _, _, _, _, _, _, _, _, _⟩ := node_at (HR.out _ Hb8.out) hxl
      rw [← at_nat hxl] at g0 g2
      have hxl' : (x : Int) < (f.length : Int) := by omega
      have hx0 : decide ((x : Int) < 0) = false := by simp
      have hs1 : U.data.toList.length ≤ 3600 := by
        rw [hU.out]
        have := flat_len hm (L.take j) (fun y hy => Hall.out y (List.mem_of_mem_take hy))
        rw [List.length_take] at this
        omega
      rw [← Lib.size_eq] at hs1
      by_cases hk2 : (at_ f (x : Int)).kind = 2
      · have how : ownT f (x : Int) = (at_ f (x : Int)).text.data.toList := by unfold ownT; rw [if_pos hk2]
        have hts := own_text hm hxl hk2
        rw [hk2] at g0
        have hU2 : (U ++ (at_ f (x : Int)).text).data.toList = (L.take (j + 1)).flatMap (ownT f) := by rw [htk, List.flatMap_append, Pr.app_bytes, hU.out, ← how]; simp
        have HU2 := Lib.hid hU2
        clear hU2 how hk2 htk hx
        generalize (at_ f (x : Int)).text = tt at *
        go_wp2_with fail
        go_roundw
        case rel => exact ⟨j + 1, _, by omega, by go_num, rfl, HU2, trivial⟩
        case measure => simp [intOf]; omega
      · have how : ownT f (x : Int) = [] := by unfold ownT; rw [if_neg hk2]
        have hk3 : ((at_ f (x : Int)).kind == 2) = false := by simpa using hk2
        have hU2 : U.data.toList = (L.take (j + 1)).flatMap (ownT f) := by rw [htk, List.flatMap_append, hU.out]; simp [how]
        have HU2 := Lib.hid hU2
        clear hU2 how hk2 htk hx
        go_wp2_with fail
        go_roundw
        case rel => exact ⟨j + 1, _, by omega, by go_num, rfl, HU2, trivial⟩
        case measure => simp [intOf]; omega
    · obtain rfl : j = L.length := by omega
      have hU2 := hU.out
      rw [List.take_length] at hU2
      have HU2 := Lib.hid hU2
      clear hU2
      go_wp2_with fail
      go_ret2
      refine ⟨ret_si ?_ rfl, Hb8.out⟩
      rw [← HU2.out]
end Go.Proofs.Ytbbompmpecblgaa.R8
end
section
/- treillageref08: ById. -/
namespace Go.Proofs.Ytbbompmpecblgaa.R8
open Go Go.RowKit Go.Proofs.Ytbbompmpecblgaa.Seq Go.Proofs.Ytbbompmpecblgaa.WS Go.Proofs.Ytbbompmpecblgaa.FS Go.Proofs.Ytbbompmpecblgaa.Mem Go.Proofs.Ytbbompmpecblgaa.Rd Go.Proofs.Ytbbompmpecblgaa.Shapes Go.Proofs.Ytbbompmpecblgaa.Word Go.Proofs.Ytbbompmpecblgaa.FFam Go.Proofs.Ytbbompmpecblgaa.Wk
set_option linter.unusedVariables false
set_option linter.unusedSimpArgs false
set_option maxRecDepth 100000 in
set_option maxHeartbeats 4000000 in
theorem ById_calls (w : World) (v : Value) (f : Fo) (h : RdF w.heap.size w v f) (hm : mayB f = true) (text : ByteArray) : Calls Try.prog 55 #[v, .string text] w (ByIdPost f text w) := by
  have hl60 := (may_is hm).len
  have hn0 : isNode f 0 = true := (node_iff f 0).2 ⟨by omega, by omega⟩
  have h2 := Order_calls w v f h hm 0
  unfold OrderPost at h2
  rw [show orderL f 0 = order f 0 from if_pos hn0, show nodeErr f 0 = 0 from if_pos hn0] at h2
  have hr := fun w' (hb : Below w.heap.size w w') => (h.below nodeE_keeps (w' := w') hb (Nat.le_refl _)).mono nodeE_keeps hb.size
  have h3 := fun w' hb k => Attr_calls w' v f (hr w' hb) k ⟨#[105, 100]⟩
  have hol := order_len (may_is hm).fam (may_is hm).climb hn0
  obtain ⟨L, hL⟩ : ∃ L, L = order f 0 := ⟨_, rfl⟩
  rw [← hL] at h2 hol
  have HL := Lib.hid hL; have H2 := Lib.hid h2; have H3 := Lib.hid h3
  clear h2 h3 hr h hL
  unfold ByIdPost
  go_enter Try.func55, Try.ntmps55
  go_upto_region 2 with (go_at_call 52; (with_reducible refine (H2.out).mono ?_); rintro e w9 ⟨v9, rfl, hr9, hb9⟩; have Hr9 := Lib.hid hr9; have Hb9 := Lib.hid hb9; clear hr9 hb9)
  obtain ⟨A9, c9, rfl, hl9, hc9, hr9'⟩ := Hr9.out.form
  simp only [maxLen] at hc9
  have HR9 := Lib.hid hr9'
  clear hr9' Hr9
  go_wp2_with fail
  go_loopw [8, 9, 10] (fun i _ _ wr => ∃ k : Nat, k ≤ L.length ∧ i = .int .i64 k ∧ wr = w9 ∧ Hid (∀ j (hj : j < L.length), j < k → hitB f text L[j] = false)) (fun i _ _ _ => L.length - (intOf i).toNat)
  case atStart => exact ⟨0, Nat.zero_le _, rfl, rfl, Lib.hid (fun j _ h => absurd h (Nat.not_lt_zero _))⟩
  case round =>
    obtain ⟨k, hk, rfl, rfl, hno⟩ := hrel
    by_cases hlt : k < L.length
    · obtain ⟨b, o, rfl, hbl, g0, _⟩ := intE_at HR9.out hlt
      have hat := H3.out wr Hb9.out L[k]
      have hlt' : (k : Int) < (L.length : Int) := by omega
      have hk0 : decide ((k : Int) < 0) = false := by simp
      obtain ⟨E, hE⟩ : ∃ E, attrErr f L[k] ⟨#[105, 100]⟩ = E := ⟨_, rfl⟩
      obtain ⟨V, hV⟩ : ∃ V, attrVal f L[k] ⟨#[105, 100]⟩ = V := ⟨_, rfl⟩
      have hH : hitB f text L[k] = (decide (E = 0) && decide (V = text) && decide (text.size ≠ 0)) := by rw [← hE, ← hV]; rfl
      rw [hE, hV] at hat
      cases hx : hitB f text L[k] with
      | true =>
        rw [hx] at hH
        simp only [Bool.true_eq, Bool.and_eq_true, decide_eq_true_eq] at hH
        obtain ⟨⟨rfl, rfl⟩, hsz⟩ := hH
        have hlk : L[k] = (order f 0)[k]'(by rw [← HL.out]; exact hlt) := by simp only [HL.out]
        have hbi : byId f V = some L[k] := by
          rw [hlk]
          refine byId_hit _ (fun y hy => ?_) (by rw [← hlk]; exact hx)
          obtain ⟨j, hj, rfl⟩ := List.mem_iff_getElem.1 hy
          rw [List.length_take] at hj
          rw [List.getElem_take]
          have := hno.out j (by omega) (by omega)
          simpa only [HL.out] using this
        have hb2 : byIdV f (byId f V) = (L[k], 0) := by rw [hbi]; rfl
        have hne : (!V.toList.isEmpty) = true := by rw [empty_dec]; exact decide_eq_true hsz
        have hne2 : V.toList.isEmpty = false := by simpa using hne
        have Hat := Lib.hid hat; have Hb2 := Lib.hid hb2
        clear hat hx hbi hlk hE hV hno hsz hb2
        generalize L[k] = x at *
        go_wp2_with (go_at_call 54; (with_reducible refine (Hat.out).mono ?_); rintro e w10 ⟨rfl, rfl⟩)
        go_ret2
        exact ⟨(ret_ii2 Hb2.out).symm, Hb9.out⟩
      | false =>
        rw [hx] at hH
        have hno2 : ∀ j (hj : j < L.length), j < k + 1 → hitB f text L[j] = false := fun j hj hjk => by
          by_cases e : j = k
          · subst e; exact hx
          · exact hno.out j hj (by omega)
        have Hno2 := Lib.hid hno2; have Hat := Lib.hid hat; have HH := Lib.hid hH
        clear hno2 hat hx hE hV hno hH
        generalize L[k] = x at *
        go_wp2_with (go_at_call 54; (with_reducible refine (Hat.out).mono ?_); rintro e w10 ⟨rfl, rfl⟩)
        all_goals first
          | (exfalso
             have he : V.toList = text.toList := by assumption
             have hE0 : E = 0 := by assumption
             have ht2 : (!text.toList.isEmpty) = true := by assumption
             have hh := HH.out
             rw [FSame.str_inj] at he
             rw [empty_dec] at ht2
             rw [decide_eq_true he, decide_eq_true hE0, ht2] at hh
             cases hh)
          | (go_roundw
             case rel => exact ⟨k + 1, by omega, by go_num, trivial, Hno2⟩
             case measure => simp [intOf]; omega)
    · obtain rfl : k = L.length := by omega
      have hbi : byId f text = none := byId_none (fun y hy => by
        rw [← HL.out] at hy
        obtain ⟨j, hj, rfl⟩ := List.mem_iff_getElem.1 hy
        exact hno.out j hj hj)
      have hb2 : byIdV f (byId f text) = (0, 3) := by rw [hbi]; rfl
      have Hb2 := Lib.hid hb2
      clear hbi hno hb2
      go_wp2_with fail
      go_ret2
      exact ⟨(ret_ii2 Hb2.out).symm, Hb9.out⟩
end Go.Proofs.Ytbbompmpecblgaa.R8
end
section
/- treillagelaw08.its: as Its, of another law. -/
namespace Go.Proofs.Ytbbompmpecblgaa.Its8
open Go Go.RowKit Go.Proofs.Ytbbompmpecblgaa.Seq Go.Proofs.Ytbbompmpecblgaa.WS Go.Proofs.Ytbbompmpecblgaa.FS Go.Proofs.Ytbbompmpecblgaa.Mem Go.Proofs.Ytbbompmpecblgaa.Rd Go.Proofs.Ytbbompmpecblgaa.Shapes Go.Proofs.Ytbbompmpecblgaa.Word Go.Proofs.Ytbbompmpecblgaa.FFam Go.Proofs.Ytbbompmpecblgaa.OwnF Go.Proofs.Ytbbompmpecblgaa.Its
set_option linter.unusedVariables false
set_option linter.unusedSimpArgs false

set_option maxRecDepth 100000 in
set_option maxHeartbeats 8000000 in
theorem its_calls (w : World) (v : Value) (f : Fo) (h : RdF w.heap.size w v f) (hl70 : f.length ≤ 1000) (ha12 : ∀ n ∈ f, n.attrs.length ≤ 1000) :
    Calls Try.prog 47 #[v] w fun e w' => ∃ u, e = .returned u ∧ OwnF 87 w.heap.size w' u f ∧ Below w.heap.size w w' := by
  obtain ⟨A0, c0, rfl, hl0, hc0, h'⟩ := h.form
  simp only [maxLen] at hc0
  obtain ⟨i0, hi0, hz0, hz1, hz2⟩ := info_parts info_rnode
  obtain ⟨i1, hi1, hy0, hy1, hy2⟩ := info_parts info_rattr
  have Hh := Lib.hid h'; have Ha := Lib.hid ha12
  clear h h' ha12
  go_enter Try.func47, Try.ntmps47
  go_wp2_with fail
  have hown0 : (w.alloc (.cells #[] 87)).ownsRow w.heap.size 87 6 (.slice (some ⟨w.heap.size, 0, none⟩) 0 0) 0 [] := World.ownsRow_made w #[] 0 (Nat.le_refl _) (by simp [maxLen]) (by simp)
  have hO0 : OwnF 87 w.heap.size (w.alloc (.cells #[] 87)) (.slice (some ⟨w.heap.size, 0, none⟩) 0 0) (f.take 0) := ⟨[], hown0, fun i hi => absurd hi (by simp)⟩
  have HO0 := Lib.hid hO0
  clear hown0 hO0
  go_loopw [3, 4] (fun u i wr => ∃ k : Nat, k ≤ f.length ∧ i = .int .i64 k ∧ Hid (OwnF 87 w.heap.size wr u (f.take k)) ∧ Below w.heap.size w wr) (fun _ i _ => f.length - (intOf i).toNat)
  case atStart => exact ⟨0, Nat.zero_le _, rfl, HO0, (Below.refl _ _).alloc (Nat.le_refl _) _⟩
  case round =>
    obtain ⟨k, hk, rfl, hO, hb⟩ := hrel
    obtain ⟨xsO, hrowO, hndO⟩ := hO.out
    obtain ⟨AO, nO, cO, rfl⟩ := Build.own_form hrowO
    have HrowO := Lib.hid hrowO; have HndO := Lib.hid hndO
    clear hrowO hndO
    by_cases hlt : k < f.length
    · obtain ⟨b, o, Aa, ca, Ak, ck, rfl, hbl, g0, g1, g2, g3, g4, g5, ra, rk, la, lca, lk, lck, m1, m2, m3, m4⟩ := node_at Hh.out hlt
      have han := Ha.out f[k] (List.getElem_mem _)
      have htk : f.take (k + 1) = f.take k ++ [f[k]] := List.take_succ_eq_append_getElem hlt
      generalize f[k] = n at *
      obtain ⟨kd, nm, tx, ats, par, kks⟩ := n
      simp only at *
      simp only [maxLen] at lca lck m1 m2
      have hkeep := fun w' (hb' : Below w.heap.size w w') => (⟨cell_below hb' g0 hbl, cell_below hb' g1 hbl, cell_below hb' g2 hbl, cell_below hb' g3 hbl, cell_below hb' g4 hbl, cell_below hb' g5 hbl⟩ : _ ∧ _ ∧ _ ∧ _ ∧ _ ∧ _)
      obtain ⟨p0, p1, p2, p3, p4, p5⟩ := hkeep wr hb
      have hbwr : b < wr.heap.size := Nat.lt_of_lt_of_le hbl hb.size
      have Hkeep := Lib.hid hkeep; have Hra := Lib.hid ra; have Hrk := Lib.hid rk; have Htk := Lib.hid htk; have Hb := Lib.hid hb; have Hm3 := Lib.hid m3; have Hm4 := Lib.hid m4
      obtain ⟨wo, rfl⟩ : ∃ wo : World, wo = wr := ⟨_, rfl⟩
      have Hsm := Lib.hid (show nm.size ≤ maxLen ∧ tx.size ≤ maxLen ∧ (Lit.int .i64 kd).wf = true ∧ (Lit.int .i64 par).wf = true from ⟨by simp only [maxLen]; omega, by simp only [maxLen]; omega, m3, m4⟩)
      have Ha2 := Lib.hid (attrs_small ra)
      clear g0 g1 g2 g3 g4 g5 hkeep ra rk htk hb m3 m4
      go_wp2_with fail
      go_region_held3 (fun w' => w'.cell? ⟨b, o + k * 6, none⟩ = some (.int .i64 kd) ∧ w'.cell? ⟨b, o + k * 6 + 1, none⟩ = some (.string nm) ∧ w'.cell? ⟨b, o + k * 6 + 2, none⟩ = some (.string tx) ∧ w'.cell? ⟨b, o + k * 6 + 4, none⟩ = some (.int .i64 par) ∧ w'.cell? ⟨b, o + k * 6 + 5, none⟩ = some (.slice Ak kks.length ck))
        (first | exact ⟨p0, p1, p2, p4, p5⟩ | go_keep)
        ((fail))
      go_wp2_with fail
      obtain ⟨gn, hgn⟩ : ∃ gn, gn = wo.heap.size := ⟨_, rfl⟩
      have hG0 : NBox gn kd nm tx par (.slice Ak kks.length ck) (ats.take 0) (.slice none 0 0) wo ((wo.alloc (.cells #[.int .i64 kd, .string nm, .string tx, .slice none 0 0, .int .i64 par, .slice Ak kks.length ck] 87)).drew) :=
        ⟨heap_new hgn, World.ownsRow_nil _ _ _ _, ((Below.refl _ wo).alloc (Nat.le_refl _) _).drew⟩
      rw [← hgn]
      have HG0 := Lib.hid hG0
      have Hgn := Lib.hid hgn
      clear hG0 p0 p1 p2 p3 p4 p5 hgn
      go_loopw [6] (fun i wi => ∃ (j : Nat) (va : Value), j ≤ ats.length ∧ i = .int .i64 j ∧ Hid (NBox gn kd nm tx par (.slice Ak kks.length ck) (ats.take j) va wo wi)) (fun i _ => ats.length - (intOf i).toNat)
      case atStart => exact ⟨0, _, Nat.zero_le _, rfl, HG0⟩
      case round =>
        obtain ⟨j, va, hj, rfl, hN⟩ := hrel
        have hbw : Below w.heap.size w wr := bthen Hb.out hN.out.2.2
        obtain ⟨p0, p1, p2, p3, p4, p5⟩ := Hkeep.out wr hbw
        by_cases hjl : j < ats.length
        · obtain ⟨hbx, hrow, hbel⟩ := hN.out
          obtain ⟨A3, n3, c3, rfl⟩ := Build.own_form hrow
          have k3 : wr.cell? ⟨gn, 3, none⟩ = some (.slice A3 n3 c3) := (cell_of_row _ _ _ _ _ _ hbx).trans rfl
          have k3f := free_of hbx 3
          have hgl := lt_heap hbx
          have hr2 := (Hra.out.below attrE_keeps (w' := wr) hbw (Nat.le_refl _))
          obtain ⟨ba, oa, rfl, hba, q0, q1, mm1, mm2⟩ := FAttr.attr_at hr2 hjl
          have htj : ats.take (j + 1) = ats.take j ++ [ats[j]] := List.take_succ_eq_append_getElem hjl
          generalize ats[j] = a at *
          obtain ⟨an, av⟩ := a
          simp only at *
          have hrow' : wr.ownsRow (gn + 1) 88 2 (.slice A3 n3 c3) j (atCells (ats.take j)) := by rw [List.length_take, Nat.min_eq_left (by omega)] at hrow; exact hrow
          have hne3 : (Value.slice A3 n3 c3).ownBlock ≠ some gn := fun e => by have := (hrow.lt gn e).1; omega
          have hbl2 : ba < wr.heap.size := World.block_lt_of_cell? wr _ q0
          have hjn : (j : Int) < ats.length := by omega
          have hkn : (k : Int) < f.length := by omega
          have Hrow := Lib.hid hrow'; have Hbx := Lib.hid hbx; have Hbel := Lib.hid hbel; have Htj := Lib.hid htj; have Hne3 := Lib.hid hne3; have Hgl := Lib.hid hgl
          clear hrow hrow' hbx hbel htj hr2 hne3 hbw
          go_wp2_with fail
          go_region_law (refine step_append_lies _ rfl (.tmp 51) (.tmp 60) 85 rfl (gn + 1) 88 i1 _ 2 32 Try.underlying85 hi1 hy0 hy1 hy2 rfl (by decide) (.slice A3 n3 c3) j (atCells (ats.take j)) (by simp [Act.eval, Act.put]) ((Hrow.out.alloc _).drew) ⟨wr.heap.size, 0, none⟩ 1 1 [.string an, .string av] (by simp [Act.eval, Act.put]) rfl (World.news_of_block (cs := #[.string an, .string av]) (t := 88) (fr := (0, 0)) (heap_alloc_new wr _)) (by simp [Value.oneCell']) (by omega) (by simp only [maxLen]; omega) (by omega) (by simp; omega) (wr.heap.size + 1) (by simp) ?_; intro g7 cap7 w7 hown7 hgrow7 hat7 hlt7; have e7 := (hgrow7.block gn (Nat.lt_of_lt_of_le Hgl.out (by simp)) (fun e => Hne3.out e.symm)).trans (heap_old Hbx.out); have k7 : w7.cell? ⟨gn, 3, none⟩ = some (.slice A3 n3 c3) := (cell_of_row _ _ _ _ _ _ e7).trans rfl; have k7f := free_of e7 3; have E7 := Lib.hid e7; have Hown7 := Lib.hid hown7; have Hgrow7 := Lib.hid hgrow7; have Hat7 := Lib.hid hat7; clear e7 hown7 hgrow7 hat7)
          all_goals go_wp2_with fail
          all_goals
            go_roundw
            case rel =>
              refine ⟨j + 1, .slice (some ⟨g7, 0, none⟩) (j + 1) cap7, by omega, by go_num, Lib.hid ?_⟩
              rw [Htj.out]
              refine nbox_step Hgn.out hN.out rfl ?_ Hgrow7.out Hat7.out
              rw [atCells_snoc, List.length_append, List.length_take, Nat.min_eq_left (by omega)]
              exact Hown7.out
            case measure => simp [intOf]; omega
        · obtain rfl : j = ats.length := by omega
          rw [List.take_length] at hN
          obtain ⟨hbx, hrow, hbel⟩ := hN.out
          obtain ⟨A3, n3, c3, rfl⟩ := Build.own_form hrow
          have k0 : wr.cell? ⟨gn, 0, none⟩ = some (.int .i64 kd) := (cell_of_row _ _ _ _ _ _ hbx).trans rfl
          have k1 : wr.cell? ⟨gn, 1, none⟩ = some (.string nm) := (cell_of_row _ _ _ _ _ _ hbx).trans rfl
          have k2 : wr.cell? ⟨gn, 2, none⟩ = some (.string tx) := (cell_of_row _ _ _ _ _ _ hbx).trans rfl
          have k3 : wr.cell? ⟨gn, 3, none⟩ = some (.slice A3 n3 c3) := (cell_of_row _ _ _ _ _ _ hbx).trans rfl
          have k4 : wr.cell? ⟨gn, 4, none⟩ = some (.int .i64 par) := (cell_of_row _ _ _ _ _ _ hbx).trans rfl
          have k5 : wr.cell? ⟨gn, 5, none⟩ = some (.slice Ak kks.length ck) := (cell_of_row _ _ _ _ _ _ hbx).trans rfl
          have hkl : (f.take k).length = k := by rw [List.length_take]; omega
          have hrO : wr.ownsRow w.heap.size 87 6 (.slice AO nO cO) k xsO := by
            have := own_keep HrowO.out (w' := wr) (fun g hg => hbel.block g (HrowO.out.lt g hg).2)
            rwa [hkl] at this
          have hrO2 := own_keep hrO (w' := wr.alloc (.cells #[.int .i64 kd, .string nm, .string tx, .slice A3 n3 c3, .int .i64 par, .slice Ak kks.length ck] 87)) (fun g hg => Below.heap_alloc _ _ _ (hrO.lt g hg).2)
          have HrO2 := Lib.hid hrO2; have HN := Lib.hid hN.out
          have hsz : w.heap.size ≤ wr.heap.size := hbw.size
          clear hbx hrow hbel hrO hrO2 hN
          go_wp2_with (at_builtin; go_loud (refine wpList_append_own_at (wr.alloc (.cells #[.int .i64 kd, .string nm, .string tx, .slice A3 n3 c3, .int .i64 par, .slice Ak kks.length ck] 87)) rfl _ _ 38 rfl w.heap.size 87 i0 _ 6 96 Try.underlying38 hi0 hz0 hz1 hz2 rfl (by decide) (.slice AO nO cO) k xsO rfl HrO2.out ⟨wr.heap.size, 0, none⟩ 1 1 [.int .i64 kd, .string nm, .string tx, .slice A3 n3 c3, .int .i64 par, .slice Ak kks.length ck] rfl rfl (World.news_of_block (cs := #[.int .i64 kd, .string nm, .string tx, .slice A3 n3 c3, .int .i64 par, .slice Ak kks.length ck]) (t := 87) (fr := (0, 0)) (heap_alloc_new wr _)) (by simp [Value.oneCell']) (by simp only [maxLen]; omega) (by omega) (by simp; omega) ?_; intro v8 w8 hown8 hgrow8 hnil8 hat8; have Hown8 := Lib.hid hown8; have Hgrow8 := Lib.hid hgrow8; have Hat8 := Lib.hid hat8; clear hown8 hgrow8 hnil8 hat8))
          go_roundw
          case rel =>
            refine ⟨k + 1, by omega, by go_num, Lib.hid ?_, ?_⟩
            · rw [Htk.out]
              exact out_step hkl HndO.out HrowO.out HN.out Hgn.out (Hrk.out.keep (intE_keeps _) (bthen Hb.out HN.out.2.2) (Nat.le_refl _)) HrO2.out Hown8.out Hgrow8.out Hat8.out (Ha2.out) Hsm.out hsz
            · exact ((bthen Hb.out HN.out.2.2).alloc hsz _).trans ((Off.grown (Y := fun b => w.heap.size ≤ b) Hgrow8.out (fun r hr => (HrowO.out.lt r hr).1)).toBelow (by simp; omega) (fun b hb => hb))
          case measure => simp [intOf]; omega
    · obtain rfl : k = f.length := by omega
      have hfin := hO.out
      rw [List.take_length] at hfin
      have Hfin := Lib.hid hfin; have Hb := Lib.hid hb
      clear hfin hb hlt
      go_wp2_with fail
      go_ret
      exact ⟨_, rfl, Hfin.out, Hb.out⟩
end Go.Proofs.Ytbbompmpecblgaa.Its8
end
