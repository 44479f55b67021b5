import Derived.Test.YtmbhkkophkccbaaGreatC23
import Derived.Test.YtmbhkkophkccbaaGreatC28
import Derived.Test.YtmbhkkophkccbaaGreatC03
section
namespace Go.Proofs.YtmbhkkophkccbaaGreat.Sn
open Go Go.RowKit WS FS Fn Pa Hs Wk Fi
set_option linter.unusedVariables false
theorem end_all {s : ByteArray} {p : UInt8 → Bool} : ∀ (n a : Nat), a + n = s.size → (∀ i, a ≤ i → i < s.size → p (nextB s i) = true) → endOf s p a = s.size
 | 0, a, h, _ => by
  rw [end_stop (by omega)]
  omega
 | n + 1, a, h, hp => by
  rw [end_step (by omega) (hp a (Nat.le_refl _) (by omega))]
  exact end_all n (a + 1) (by omega) (fun i h1 h2 => hp i (by omega) h2)
theorem mark_nm {b : UInt8} (h : markB b = true) : nmB b = true := by
 unfold markB digitB at h
 unfold nmB
 simpa [Bool.or_eq_true, or_assoc] using h
def hashT (name : ByteArray) : ByteArray := (⟨#[35]⟩ : ByteArray) ++ name
theorem hash_size (name : ByteArray) : (hashT name).size = name.size + 1 := by unfold hashT; rw [ByteArray.size_append]; show 1 + name.size = _; omega
theorem hash_0 (name : ByteArray) : nextB (hashT name) 0 = 35 := by
 rw [next_yes (by rw [hash_size]; omega)]
 unfold hashT
 rw [ByteArray.getElem_append_left (by decide)]
 rfl
theorem hash_at {name : ByteArray} {i : Nat} (h : i < name.size) : nextB (hashT name) (i + 1) = name[i] := by
 rw [next_yes (by rw [hash_size]; omega)]
 unfold hashT
 rw [ByteArray.getElem_append_right (by show 1 ≤ i + 1; omega)]
 rfl
theorem parse_id {name : ByteArray} (h : nameB name.data.toList = true) : parseP (hashT name) = .ok [[{ c := [{ kind := 2, name := name }], child := false }]] := by
 have hl := name_len h
 rw [← Lib.size_eq] at hl
 have hz := hash_size name
 have h0 := hash_0 name
 unfold nameB at h
 simp only [Bool.and_eq_true, decide_eq_true_eq] at h
 obtain ⟨⟨_, hhd⟩, hall⟩ := h
 have hmk : ∀ i (hi : i < name.size), markB name[i] = true := fun i hi => List.all_eq_true.1 hall _ (by
  have : name[i] = name.data[i]'hi := rfl
  rw [this]
  exact Array.getElem_mem_toList _)
 have h1 : letterB (nextB (hashT name) 1) = true := by
  rw [hash_at (i := 0) (by omega)]
  have e : name.data.toList.head? = some name[0] := by
   rw [List.head?_eq_getElem?, List.getElem?_eq_getElem (by rw [← Lib.size_eq]; omega)]
   rfl
  rw [e] at hhd
  simpa using hhd
 generalize hS : hashT name = s at *
 have hend : endOf s nmB 1 = s.size := end_all name.size 1 (by omega) (fun i a b => by
  obtain ⟨j, rfl⟩ : ∃ j, i = j + 1 := ⟨i - 1, by omega⟩
  rw [← hS, hash_at (by omega)]
  exact mark_nm (hmk j (by omega)))
 have hnext : nextB s s.size = 0 := next_no (by omega)
 have hex : s.extract 1 s.size = name := by
  rw [← hS]
  unfold hashT
  apply ByteArray.ext
  rw [ByteArray.data_extract]
  have : ((⟨#[35]⟩ : ByteArray) ++ name).data = #[35] ++ name.data := ByteArray.data_append
  rw [this]
  have hsz : ((⟨#[35]⟩ : ByteArray) ++ name).size = name.size + 1 := hash_size name
  rw [hsz]
  simp
 have hname : nameP s 1 = .ok (name, s.size) := by
  unfold nameP
  rw [if_pos h1, hend, if_pos (by omega), hex]
 have hcomp : compoundP s 0 = .ok ([{ kind := 2, name := name }], s.size) := by
  unfold compoundP
  rw [if_neg (by unfold tookB; rw [h0]; simp), if_neg (by rw [h0]; decide), show s.size + 1 - 0 = (s.size - 1 + 1) + 1 by omega, compLoop, if_neg (by rw [h0]; decide), if_pos h0, hname]
  simp only
  rw [compLoop, hnext, if_neg (by decide), if_neg (by decide), if_neg (by decide), if_neg (by omega), List.nil_append]
 have hb0 : endOf s blkB 0 = 0 := end_stop (by rw [h0]; exact fun hx => absurd hx.2 (by decide))
 have hbe : endOf s blkB s.size = s.size := end_stop (fun hx => absurd hx.1 (by omega))
 have hrow : rowP s 0 = .ok ([{ c := [{ kind := 2, name := name }], child := false }], s.size) := by
  unfold rowP
  rw [hb0, show s.size + 1 - 0 = s.size + 1 by omega, rowLoop, hcomp]
  simp only
  rw [hbe, if_pos (.inl rfl), List.nil_append]
 unfold parseP
 rw [parseLoop, hrow]
 simp only
 rw [if_neg (by unfold tookB; simp), List.nil_append]
theorem of_byId (f : Fo) (name : ByteArray) : ofA f { kind := 7, text := name } = oneA (byIdV f (byId f name)) := by
 unfold ofA
 rw [if_pos ⟨show (1 : Int) ≤ 7 by decide, show (7 : Int) ≤ 9 by decide⟩]
 rfl
theorem of_hash {f : Fo} (hm : mayB f = true) {name : ByteArray} (h : nameB name.data.toList = true) : ofA f { kind := 8, text := hashT name } = { nums := (order f 0).filter (hitB f name) } := by
 have hn : isNode f 0 = true := nodeI (i := 0) (by have := (may_is hm).len; omega)
 have hl := name_len h
 rw [← Lib.size_eq] at hl
 unfold ofA
 rw [if_pos ⟨show (1 : Int) ≤ 8 by decide, show (8 : Int) ≤ 9 by decide⟩]
 show chosenA f { kind := 8, text := hashT name } = _
 unfold chosenA
 rw [show parseP ({ kind := 8, text := hashT name } : Qy).text = _ from parse_id h]
 simp only
 rw [if_pos hn]
 unfold allS Wk.orderL
 rw [if_pos hn]
 congr 1
 refine List.filter_congr (fun k hk => ?_)
 exact id_hit hm ((order_mem (may_is hm) hn k).1 hk).1 rfl (by show 0 < name.size; omega)
theorem filter_find {α : Type} (p : α → Bool) : ∀ l : List α, (l.filter p).head? = l.find? p
 | [] => rfl
 | x :: l => by
  rw [List.find?_cons, List.filter_cons]
  cases p x with
  | true => rfl
  | false => exact filter_find p l
end Go.Proofs.YtmbhkkophkccbaaGreat.Sn
end
section
namespace Go.Proofs.YtmbhkkophkccbaaGreat.R2
open Go Go.RowKit WS Word
set_option linter.unusedVariables false
set_option linter.unusedSimpArgs false
theorem letter_calls (b : UInt8) (w : World) : Calls Tryz.prog 92 #[.int .u8 (b.toNat : Int)] w fun e w' => e = .returned (.bool (letterB b)) ∧ w = w' := by
 obtain ⟨n, hn⟩ : ∃ n : Nat, n = b.toNat := ⟨_, rfl⟩
 have hl : letterB b = ((decide (65 ≤ n) && decide (n ≤ 90)) || (decide (97 ≤ n) && decide (n ≤ 122))) := by rw [hn]; rfl
 rw [hl, ← hn]
 clear hl hn
 have hx : (97 ≤ n ∧ n ≤ 122) ∨ (65 ≤ n ∧ n ≤ 90) ∨ n < 65 ∨ (90 < n ∧ n < 97) ∨ 122 < n := by omega
 rcases hx with ⟨h1, h2⟩ | ⟨h1, h2⟩ | h1 | ⟨h1, h2⟩ | h1
 ·have k1 : (97 : Int) ≤ (n : Int) := by omega
  have k2 : (n : Int) ≤ 122 := by omega
  go_enter Tryz.func92, Tryz.ntmps92
  go_wp2_with fail
  go_ret
  exact ⟨ret_bool (by rw [Bool.eq_iff_iff] <;> (try simp) <;> (try omega)), rfl⟩
 ·have k1 : (n : Int) < 97 := by omega
  have k2 : (65 : Int) ≤ (n : Int) := by omega
  have k3 : (n : Int) ≤ 90 := by omega
  go_enter Tryz.func92, Tryz.ntmps92
  go_wp2_with fail
  go_ret
  exact ⟨ret_bool (by rw [Bool.eq_iff_iff] <;> (try simp) <;> (try omega)), rfl⟩
 ·have k1 : (n : Int) < 97 := by omega
  have k2 : (n : Int) < 65 := by omega
  go_enter Tryz.func92, Tryz.ntmps92
  go_wp2_with fail
  go_ret
  exact ⟨ret_bool (by rw [Bool.eq_iff_iff] <;> (try simp) <;> (try omega)), rfl⟩
 ·have k1 : (n : Int) < 97 := by omega
  have k2 : (65 : Int) ≤ (n : Int) := by omega
  have k3 : (90 : Int) < (n : Int) := by omega
  go_enter Tryz.func92, Tryz.ntmps92
  go_wp2_with fail
  go_ret
  exact ⟨ret_bool (by rw [Bool.eq_iff_iff] <;> (try simp) <;> (try omega)), rfl⟩
 ·have k1 : (97 : Int) ≤ (n : Int) := by omega
  have k2 : (122 : Int) < (n : Int) := by omega
  have k3 : (65 : Int) ≤ (n : Int) := by omega
  have k4 : (90 : Int) < (n : Int) := by omega
  go_enter Tryz.func92, Tryz.ntmps92
  go_wp2_with fail
  go_ret
  exact ⟨ret_bool (by rw [Bool.eq_iff_iff] <;> (try simp) <;> (try omega)), rfl⟩
theorem Text_calls (s : ByteArray) (w : World) : Calls Tryz.prog 233 #[.string s] w fun e w' => e = .returned (.bool (textB s.data.toList)) ∧ w = w' := by
 go_enter Tryz.func233, Tryz.ntmps233
 go_wp2
 go_ret
 exact ⟨ret_bool (by unfold textB; simp; omega), rfl⟩
theorem mark_eq (b : UInt8) (h : letterB b = false) : markB b = (decide (48 ≤ b.toNat ∧ b.toNat ≤ 57) || decide (b.toNat = 45) || decide (b.toNat = 95)) := by
 have key : ∀ n : Fin 256, letterB (UInt8.ofNat n.val) = false → markB (UInt8.ofNat n.val) = (decide (48 ≤ (UInt8.ofNat n.val).toNat ∧ (UInt8.ofNat n.val).toNat ≤ 57) || decide ((UInt8.ofNat n.val).toNat = 45) || decide ((UInt8.ofNat n.val).toNat = 95)) := by decide +kernel
 have := key ⟨b.toNat, b.toNat_lt⟩
 simpa using this (by simpa using h)
set_option maxHeartbeats 2000000 in
theorem Name_calls (s : ByteArray) (hs : s.size ≤ 9223372036854775807) (w : World) : Calls Tryz.prog 37 #[.string s] w fun e w' => e = .returned (.bool (nameB s.data.toList)) ∧ w = w' := by
 go_enter Tryz.func37, Tryz.ntmps37
 go_wp2_with fail
 go_loop [3] (fun i => ∃ k : Nat, k ≤ s.size ∧ i = .int .i64 k ∧ Hid (∀ j (hj : j < s.size), j < k → markB s[j] = true ∧ (j = 0 → letterB s[j] = true))) (fun i => s.size - (intOf i).toNat)
 case atStart => exact ⟨0, Nat.zero_le _, rfl, Lib.hid (fun j _ h => absurd h (Nat.not_lt_zero _))⟩
 case round =>
  obtain ⟨k, hk, rfl, hm⟩ := hrel
  by_cases hlt : k < s.size
  ·have hnext : markB s[k] = true → (k = 0 → letterB s[k] = true) → ∀ j (hj : j < s.size), j < k + 1 → markB s[j] = true ∧ (j = 0 → letterB s[j] = true) := fun h1 h2 j hj h => by
    rcases Nat.lt_or_ge j k with h3 | h3
    ·exact hm.out j hj h3
    ·obtain rfl : j = k := by omega
     exact ⟨h1, h2⟩
   have hlet := letter_calls s[k]
   cases hl1 : letterB s[k] with
   | true =>
    rw [hl1] at hlet
    have hN := hnext (by unfold markB; rw [hl1]; rfl) (fun _ => hl1)
    have HN := Lib.hid hN; have Hlet := Lib.hid hlet
    clear hN hlet hnext hm hl1
    go_wp2_with (go_at_call 92; (with_reducible refine (Hlet.out _).mono ?_); rintro e w' ⟨rfl, rfl⟩)
    go_round
    case rel => exact ⟨k + 1, by omega, by go_num, HN⟩
    case measure => simp [intOf]; omega
   | false =>
    rw [hl1] at hlet
    have Hlet := Lib.hid hlet
    by_cases h0 : k = 0
    ·subst h0
     have hr := name_first hlt hl1
     have Hr := Lib.hid hr
     clear hr hlet hnext hm hl1
     go_wp2_with (go_at_call 92; (with_reducible refine (Hlet.out _).mono ?_); rintro e w' ⟨rfl, rfl⟩)
     go_ret
     exact ⟨ret_bool Hr.out.symm, rfl⟩
    ·have hk0 : ((k : Int) == 0) = false := by rw [beq_eq_false_iff_ne]; omega
     have hmk := mark_eq s[k] hl1
     have hno := fun h => name_not (s := s) (j := k) hlt h
     have hN := fun h => hnext h (fun e => absurd e h0)
     have HN := Lib.hid hN; have Hno := Lib.hid hno
     clear hN hlet hnext hm hl1 hno
     generalize hb : s[k] = b at *
     by_cases d1 : 48 ≤ b.toNat ∧ b.toNat ≤ 57
     ·have hmt : markB b = true := by rw [hmk, decide_eq_true d1]; rfl
      have Hmt := Lib.hid (HN.out hmt)
      have k1 : (48 : Int) ≤ (b.toNat : Int) := by omega
      have k2 : (b.toNat : Int) ≤ 57 := by omega
      clear hmk hmt HN Hno
      go_wp2_with (go_at_call 92; (with_reducible refine (Hlet.out _).mono ?_); rintro e w' ⟨rfl, rfl⟩)
      go_round
      case rel => exact ⟨k + 1, by omega, by go_num, Hmt⟩
      case measure => simp [intOf]; omega
     ·have k3 : (b.toNat : Int) < 48 ∨ (57 : Int) < (b.toNat : Int) := by omega
      by_cases d2 : b.toNat = 45
      ·have hmt : markB b = true := by rw [hmk, decide_eq_true d2]; simp
       have Hmt := Lib.hid (HN.out hmt)
       have k1 : ((b.toNat : Int) == 45) = true := by rw [beq_iff_eq]; omega
       have k2 : (b.toNat : Int) < 48 := by omega
       have k5 : ((b.toNat : Int) != 45) = false := by rw [bne_eq_false_iff_eq]; omega
       clear hmk hmt HN Hno k3 d1 d2
       go_wp2_with (go_at_call 92; (with_reducible refine (Hlet.out _).mono ?_); rintro e w' ⟨rfl, rfl⟩)
       go_round
       case rel => exact ⟨k + 1, by omega, by go_num, Hmt⟩
       case measure => simp [intOf]; omega
      ·have k5 : ((b.toNat : Int) != 45) = true := by rw [bne_iff_ne]; omega
       have k6 : ((b.toNat : Int) == 45) = false := by rw [beq_eq_false_iff_ne]; omega
       by_cases d3 : b.toNat = 95
       ·have hmt : markB b = true := by rw [hmk, decide_eq_true d3]; simp
        have Hmt := Lib.hid (HN.out hmt)
        have k1 : ((b.toNat : Int) == 95) = true := by rw [beq_iff_eq]; omega
        have k2 : (57 : Int) < (b.toNat : Int) := by omega
        have k4 : (48 : Int) ≤ (b.toNat : Int) := by omega
        have k7 : ((b.toNat : Int) != 95) = false := by rw [bne_eq_false_iff_eq]; omega
        clear hmk hmt HN Hno k3 d1 d2 d3
        go_wp2_with (go_at_call 92; (with_reducible refine (Hlet.out _).mono ?_); rintro e w' ⟨rfl, rfl⟩)
        go_round
        case rel => exact ⟨k + 1, by omega, by go_num, Hmt⟩
        case measure => simp [intOf]; omega
       ·have hmf : markB b = false := by rw [hmk, decide_eq_false d1, decide_eq_false d2, decide_eq_false d3]; rfl
        have Hr := Lib.hid (Hno.out hmf)
        have k7 : ((b.toNat : Int) != 95) = true := by rw [bne_iff_ne]; omega
        have k8 : ((b.toNat : Int) == 95) = false := by rw [beq_eq_false_iff_ne]; omega
        clear hmk hmf HN Hno d1 d2 d3
        rcases k3 with k3 | k3
        ·go_wp2_with (go_at_call 92; (with_reducible refine (Hlet.out _).mono ?_); rintro e w' ⟨rfl, rfl⟩)
         go_ret
         exact ⟨ret_bool Hr.out.symm, rfl⟩
        ·have k4 : (48 : Int) ≤ (b.toNat : Int) := by omega
         go_wp2_with (go_at_call 92; (with_reducible refine (Hlet.out _).mono ?_); rintro e w' ⟨rfl, rfl⟩)
         go_ret
         exact ⟨ret_bool Hr.out.symm, rfl⟩
  ·obtain rfl : k = s.size := by omega
   have hres : nameB s.data.toList = (decide ((1 : Int) ≤ (s.size : Int)) && decide ((s.size : Int) ≤ 20)) := by
    by_cases h1 : 1 ≤ s.size
    ·by_cases h2 : s.size ≤ 20
     ·have h0 : 0 < s.size := by omega
      rw [name_all h0 h2 ((hm.out 0 h0 h0).2 rfl) (fun j hj => (hm.out j hj hj).1), decide_eq_true (by omega), decide_eq_true (by omega)]; rfl
     ·unfold nameB
      rw [decide_eq_false (p := (s.size : Int) ≤ 20) (by omega), decide_eq_false (p := s.data.toList.length ≤ 20) (by simpa using h2)]
      simp
    ·unfold nameB
     rw [decide_eq_false (p := (1 : Int) ≤ (s.size : Int)) (by omega), decide_eq_false (p := 1 ≤ s.data.toList.length) (by simpa using h1)]
     simp
   have Hres := Lib.hid hres
   clear hres hm hlt
   by_cases h1 : (1 : Int) ≤ (s.size : Int)
   ·by_cases h2 : (s.size : Int) ≤ 20
    ·go_wp2_with fail
     go_ret
     exact ⟨ret_bool (by rw [Hres.out, decide_eq_true (p := (1 : Int) ≤ (s.size : Int)) (by omega), decide_eq_true (p := (s.size : Int) ≤ 20) (by omega)]; rfl), rfl⟩
    ·go_wp2_with fail
     go_ret
     exact ⟨ret_bool (by rw [Hres.out, decide_eq_true (p := (1 : Int) ≤ (s.size : Int)) (by omega), decide_eq_false (p := (s.size : Int) ≤ 20) (by omega)]; rfl), rfl⟩
   ·go_wp2_with fail
    go_ret
    exact ⟨ret_bool (by rw [Hres.out, decide_eq_false (p := (1 : Int) ≤ (s.size : Int)) (by omega)]; rfl), rfl⟩
end Go.Proofs.YtmbhkkophkccbaaGreat.R2
end
