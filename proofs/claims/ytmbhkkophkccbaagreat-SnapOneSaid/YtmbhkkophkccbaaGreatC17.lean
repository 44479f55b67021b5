import Derived.Deep.CutRange
import Derived.Deep.AppendLies
import Derived.Maps.AppendAt
import Derived.Test.YtmbhkkophkccbaaGreatC16
section
namespace Go.Proofs.YtmbhkkophkccbaaGreat.Pa
open Go Go.RowKit Go.Proofs.YtmbhkkophkccbaaGreat.Seq WS FS Mem Rd Shapes Word FFam Work
set_option linter.unusedVariables false
set_option linter.unusedSimpArgs false
def nameP (s : ByteArray) (a : Nat) : Except Nat (ByteArray × Nat) :=
 if letterB (nextB s a) = true then (if endOf s nmB a ≤ a + 20 then .ok (s.extract a (endOf s nmB a), endOf s nmB a) else .error (a + 20)) else .error a
theorem nm_ways (x : UInt8) : (letterB x = true ∧ nmB x = true) ∨ (letterB x = false ∧ 48 ≤ (x.toNat : Int) ∧ (x.toNat : Int) ≤ 57 ∧ nmB x = true) ∨ (letterB x = false ∧ ¬ 48 ≤ (x.toNat : Int) ∧ ((x.toNat : Int) == 45) = true ∧ nmB x = true) ∨ (letterB x = false ∧ ¬ 48 ≤ (x.toNat : Int) ∧ ((x.toNat : Int) == 45) = false ∧ ((x.toNat : Int) == 95) = false ∧ nmB x = false) ∨
  (letterB x = false ∧ 48 ≤ (x.toNat : Int) ∧ ¬ (x.toNat : Int) ≤ 57 ∧ ((x.toNat : Int) == 45) = false ∧ ((x.toNat : Int) == 95) = true ∧ nmB x = true) ∨ (letterB x = false ∧ 48 ≤ (x.toNat : Int) ∧ ¬ (x.toNat : Int) ≤ 57 ∧ ((x.toNat : Int) == 45) = false ∧ ((x.toNat : Int) == 95) = false ∧ nmB x = false) := by
 have h45 : (x == 45) = ((x.toNat : Int) == 45) := by
  by_cases e : x = 45
  ·subst e; rfl
  ·have : ¬ x.toNat = 45 := fun h => e (UInt8.toNat_inj.1 h)
   rw [beq_eq_false_iff_ne.2 e, beq_eq_false_iff_ne.2 (by omega)]
 have h95 : (x == 95) = ((x.toNat : Int) == 95) := by
  by_cases e : x = 95
  ·subst e; rfl
  ·have : ¬ x.toNat = 95 := fun h => e (UInt8.toNat_inj.1 h)
   rw [beq_eq_false_iff_ne.2 e, beq_eq_false_iff_ne.2 (by omega)]
 unfold nmB
 rw [h45, h95]
 cases hl : letterB x with
 | true => exact .inl ⟨rfl, by simp⟩
 | false =>
  refine .inr ?_
  by_cases h1 : 48 ≤ x.toNat
  ·by_cases h2 : x.toNat ≤ 57
   ·exact .inl ⟨rfl, by omega, by omega, by simp [h1, h2]⟩
   ·have e1 : ((x.toNat : Int) == 45) = false := by rw [beq_eq_false_iff_ne]; omega
    cases e2 : ((x.toNat : Int) == 95) with
    | true => exact .inr (.inr (.inr (.inl ⟨rfl, by omega, by omega, e1, rfl, by simp⟩)))
    | false => exact .inr (.inr (.inr (.inr ⟨rfl, by omega, by omega, e1, rfl, by rw [e1]; simp; omega⟩)))
  ·have e2 : ((x.toNat : Int) == 95) = false := by rw [beq_eq_false_iff_ne]; omega
   cases e1 : ((x.toNat : Int) == 45) with
   | true => exact .inr (.inl ⟨rfl, by omega, rfl, by simp⟩)
   | false => exact .inr (.inr (.inl ⟨rfl, by omega, rfl, e2, by rw [e2]; simp; omega⟩))
theorem nm_zero : nmB 0 = false := by decide
theorem nm_small {s : ByteArray} {b : Nat} (h : nmB (nextB s b) = true) : b < s.size := by
 by_cases hb : b < s.size
 ·exact hb
 ·rw [next_no hb, nm_zero] at h; cases h
set_option maxRecDepth 100000 in
set_option maxHeartbeats 4000000 in
theorem name_calls (s : ByteArray) (br a : Nat) (w : World) (h : At s br a w) : Calls Tryz.prog 197 #[.pointer (some ⟨br, 0, none⟩)] w (PP s br w (nameP s a) (fun x v _ => v = .string x)) := by
 have hle := h.le
 have hsm := h.small
 have H := Lib.hid h
 have hnx := next_calls s br a w h
 obtain ⟨c0, c1, cf⟩ := h.cells
 clear h
 cases hl : letterB (nextB s a) with
 | false =>
  have hM : nameP s a = .error a := by unfold nameP; rw [hl, if_neg (by decide)]
  rw [hM]
  have hlc := letter_calls (nextB s a)
  rw [hl] at hlc
  have Hnx := Lib.hid hnx; have Hlc := Lib.hid hlc
  clear hnx hlc hl hM
  generalize (nextB s a).toNat = n at *
  go_enter Tryz.func197, Tryz.ntmps197
  go_wp2_with (first | (go_at_call 132; (with_reducible refine (Hnx.out).mono ?_); rintro e w5 ⟨rfl, ha5, ho5⟩; have hg5 := give_calls s br a w5 ha5; have Hg5 := Lib.hid hg5; have Ho5 := Lib.hid ho5; clear ha5 ho5 hg5) | (go_at_call 196; (with_reducible refine (Hlc.out _).mono ?_); rintro e w6 ⟨rfl, rfl⟩) | (go_at_call 133; (with_reducible refine (Hg5.out).mono ?_); rintro e w7 ⟨rfl, rfl⟩))
  exact ⟨rfl, Ho5.out, rfl⟩
 | true =>
  have hM : nameP s a = if endOf s nmB a ≤ a + 20 then .ok (s.extract a (endOf s nmB a), endOf s nmB a) else .error (a + 20) := by unfold nameP; rw [if_pos hl]
  rw [hM]
  have hlc := letter_calls (nextB s a)
  rw [hl] at hlc
  have Hnx := Lib.hid hnx; have Hlc := Lib.hid hlc
  clear hnx hlc hl hM
  obtain ⟨x0, hx0⟩ : ∃ x0, x0 = nextB s a := ⟨_, rfl⟩
  rw [← hx0] at Hnx Hlc
  have Hx0 := Lib.hid hx0
  clear hx0
  go_enter Tryz.func197, Tryz.ntmps197
  go_upto_region 4 with (first | (go_at_call 132; (with_reducible refine (Hnx.out).mono ?_); rintro e w5 ⟨rfl, ha5, ho5⟩; have hnx5 := next_calls s br a w5 ha5; have Hnx5 := Lib.hid hnx5; have Ho5 := Lib.hid ho5; clear ha5 ho5 hnx5) | (go_at_call 196; (with_reducible refine (Hlc.out _).mono ?_); rintro e w6 ⟨rfl, rfl⟩))
  go_wp2_with (go_at_call 132; (with_reducible refine (Hnx5.out).mono ?_); rintro e w8 ⟨rfl, ha8, ho8⟩; have Ha8 := Lib.hid ha8; have Ho8 := Lib.hid (Ho5.out.trans ho8); clear ha8 ho8)
  clear Hnx5
  go_loopg [4] (s.size - a) (fun g c wr => ∃ b : Nat, a ≤ b ∧ b + g = s.size ∧ b ≤ a + 20 ∧ c = .int .u8 ((nextB s b).toNat : Int) ∧ Hid (At s br b wr) ∧ Hid (endOf s nmB a = endOf s nmB b) ∧ Hid (OffR br w wr))
  case atStart => exact ⟨a, Nat.le_refl _, by omega, by omega, rfl, Ha8, Lib.hid rfl, Ho8⟩
  case round =>
   obtain ⟨b, hab, hbg, hb20, rfl, hA, hE, hO⟩ := hrel
   have hlb := letter_calls (nextB s b)
   have hw := nm_ways (nextB s b)
   have hsmall := nm_small (s := s) (b := b)
   have hst : nmB (nextB s b) = true → endOf s nmB b = endOf s nmB (b + 1) := fun hx => end_step (hsmall hx) hx
   have hsp : nmB (nextB s b) = false → endOf s nmB b = b := fun hx => end_stop (by rw [hx]; simp)
   obtain ⟨wo, rfl⟩ : ∃ wo : World, wo = wr := ⟨_, rfl⟩
   obtain ⟨x, hx⟩ : ∃ x, x = nextB s b := ⟨_, rfl⟩
   rw [← hx] at hlb hw hsmall hst hsp ⊢
   have Hx := Lib.hid hx; have Hlb := Lib.hid hlb; have Hst := Lib.hid hst; have Hsp := Lib.hid hsp; have Hsmall := Lib.hid hsmall
   clear hx hlb hst hsp hsmall
   go_upto_region 5 with fail
   go_cut [34] from 17 to 34 (fun t wy => t = .bool (nmB x) ∧ wy = wo)
   case first =>
    rcases hw with ⟨h1, hn⟩ | ⟨h1, h2, h3, hn⟩ | ⟨h1, h2, h3, hn⟩ | ⟨h1, h2, h3, h4, hn⟩ | ⟨h1, h2, h3, h4, h5, hn⟩ | ⟨h1, h2, h3, h4, h5, hn⟩
    all_goals
     rw [h1] at Hlb
     have Hn := Lib.hid hn
     clear hn
     go_wp2_with (go_at_call 196; (with_reducible refine (Hlb.out _).mono ?_); rintro e w6 ⟨rfl, rfl⟩)
     go_meet
     refine ⟨?_, rfl⟩
     rw [Hn.out]
     try rw [decide_eq_false (by omega)]
   case rest =>
    obtain ⟨rfl, hwc⟩ := hcut
    have hwc' := hwc.symm
    subst hwc'
    clear hw Hlb
    obtain ⟨c0, c1, cf⟩ := hA.out.cells
    cases hn : nmB x with
    | true =>
     have hbs := Hsmall.out hn
     by_cases h20 : b = a + 20
     ·have hq : ((b : Int) == (a : Int) + 20) = true := by rw [beq_iff_eq]; omega
      have haw : IntKind.i64.wrap ((a : Int) + 20) = (a : Int) + 20 := by rw [IntKind.wrap_i64]; omega
      have hgt : ¬ endOf s nmB a ≤ a + 20 := by
       rw [hE.out, Hst.out hn]
       have := (end_le (s := s) (p := nmB) (a := b + 1) (by omega)).1
       omega
      have hgv := give_calls s br b wo hA.out
      rw [h20] at hgv
      have Hgv := Lib.hid hgv; have Hgt := Lib.hid hgt; have H20 := Lib.hid h20
      clear hgv hgt h20 hn hbs
      go_wp2_with (go_at_call 133; (with_reducible refine (Hgv.out).mono ?_); rintro e w7 ⟨rfl, rfl⟩)
      refine ⟨rfl, ?_⟩
      exact ⟨hO.out, rfl⟩
     ·have hq : ((b : Int) == (a : Int) + 20) = false := by rw [beq_eq_false_iff_ne]; omega
      have haw : IntKind.i64.wrap ((a : Int) + 20) = (a : Int) + 20 := by rw [IntKind.wrap_i64]; omega
      have hbw : IntKind.i64.wrap ((b : Int) + 1) = (b : Int) + 1 := by rw [IntKind.wrap_i64]; omega
      have hset : At s br (b + 1) (wo.setCell ⟨br, 1, none⟩ (.int .i64 ((b : Int) + 1))) := hA.out.set (b := b + 1) (by omega)
      have hn1 := next_calls s br (b + 1) _ hset
      have hE2 := hE.out.trans (Hst.out hn)
      have Hn1 := Lib.hid hn1; have HE2 := Lib.hid hE2
      clear hset hn1 hE2 hn
      obtain ⟨g, rfl⟩ : ∃ g, gk = g + 1 := ⟨gk - 1, by omega⟩
      go_wp2_with (go_at_call 132; (with_reducible refine (Hn1.out).mono ?_); rintro e w8 ⟨rfl, ha8, ho8⟩; have Hb8 := Lib.hid ha8; have HO8 := Lib.hid ((hO.out.trans (Off.setCell (Y := fun b => b = br) wo ⟨br, 1, none⟩ _ rfl)).trans ho8); clear ha8 ho8)
      go_roundg g
      case measure => omega
      case rel => exact ⟨b + 1, by omega, by omega, by omega, rfl, Hb8, HE2, HO8⟩
    | false =>
     have hEb := hE.out.trans (Hsp.out hn)
     have hEl : endOf s nmB a ≤ a + 20 := by omega
     have hbl := hA.out.le
     have HEb := Lib.hid hEb; have HEl := Lib.hid hEl
     clear hn hEb hEl
     have hq1 : (a : Int) ≤ (b : Int) := by omega
     have hq2 : (b : Int) ≤ (s.size : Int) := by omega
     go_upto_region 10 with fail
     go_region
     all_goals go_wp2_with fail
     all_goals go_ret
     all_goals first | exact ⟨hO.out.trans (Off.drew _ _), ⟨_, rfl, by rw [HEb.out]; rfl⟩, by rw [HEb.out]; exact hA.out.drew⟩ | exact ⟨hO.out, ⟨_, rfl, by rw [HEb.out]; rfl⟩, by rw [HEb.out]; exact hA.out⟩ | skip
end Go.Proofs.YtmbhkkophkccbaaGreat.Pa
end
section
namespace Go.Proofs.YtmbhkkophkccbaaGreat.Pa
open Go Go.RowKit Go.Proofs.YtmbhkkophkccbaaGreat.Seq WS FS Mem Rd Shapes Word FFam Work
set_option linter.unusedVariables false
set_option linter.unusedSimpArgs false
def quoB (c : UInt8) : Bool := c != 34
def valueP (s : ByteArray) (a : Nat) : Except Nat (ByteArray × Nat) :=
 if tookB s a 34 = true then (if endOf s quoB (a + 1) < s.size ∧ endOf s quoB (a + 1) ≤ a + 61 then .ok (s.extract (a + 1) (endOf s quoB (a + 1)), endOf s quoB (a + 1) + 1) else .error (min (endOf s quoB (a + 1)) (a + 61))) else nameP s a
theorem took_lt {s : ByteArray} {a : Nat} {c : UInt8} (h : tookB s a c = true) : a < s.size ∧ nextB s a = c := by
 unfold tookB at h
 rw [Bool.and_eq_true, decide_eq_true_eq, beq_iff_eq] at h
 exact h
theorem took_lit (s : ByteArray) (br a : Nat) (c : UInt8) (n : Int) (hn : (c.toNat : Int) = n) (w : World) (h : At s br a w) : Calls Tryz.prog 61 #[.pointer (some ⟨br, 0, none⟩), .int .u8 n] w fun e w' => e = .returned (.bool (tookB s a c)) ∧ At s br (if tookB s a c = true then a + 1 else a) w' ∧ OffR br w w' := by
 subst hn
 exact took_calls s br a c w h
theorem need_lit (s : ByteArray) (br a : Nat) (c : UInt8) (n : Int) (hn : (c.toNat : Int) = n) (w : World) (h : At s br a w) : Calls Tryz.prog 224 #[.pointer (some ⟨br, 0, none⟩), .int .u8 n] w (PP s br w (needP s a c) (fun _ v _ => v = .tuple #[])) := by
 subst hn
 exact need_calls s br a c w h
set_option maxRecDepth 100000 in
set_option maxHeartbeats 4000000 in
theorem value_calls (s : ByteArray) (br a : Nat) (w : World) (h : At s br a w) : Calls Tryz.prog 223 #[.pointer (some ⟨br, 0, none⟩)] w (PP s br w (valueP s a) (fun x v _ => v = .string x)) := by
 have hle := h.le
 have hsm := h.small
 have ht := took_lit s br a 34 34 rfl w h
 clear h
 cases hT : tookB s a 34 with
 | false =>
  have hM : valueP s a = nameP s a := by unfold valueP; rw [hT, if_neg (by decide)]
  rw [hM]
  rw [hT, if_neg (by decide)] at ht
  have Ht := Lib.hid ht
  clear ht hT hM
  go_enter Tryz.func223, Tryz.ntmps223
  cases hN : nameP s a with
  | error b =>
   go_wp2_with (first | (go_at_call 61; (with_reducible refine (Ht.out).mono ?_); rintro e w5 ⟨rfl, ha5, ho5⟩; have hn5 := name_calls s br a w5 ha5; rw [hN] at hn5; have Hn5 := Lib.hid hn5; have Ho5 := Lib.hid ho5; clear ha5 ho5 hn5) | (go_at_call 197; (with_reducible refine (Hn5.out).mono ?_); rintro e w6 ⟨ho6, rfl⟩; have Ho6 := Lib.hid ho6; clear ho6))
   exact ⟨rfl, Ho5.out.trans Ho6.out, rfl⟩
  | ok x =>
   go_wp2_with (first | (go_at_call 61; (with_reducible refine (Ht.out).mono ?_); rintro e w5 ⟨rfl, ha5, ho5⟩; have hn5 := name_calls s br a w5 ha5; rw [hN] at hn5; have Hn5 := Lib.hid hn5; have Ho5 := Lib.hid ho5; clear ha5 ho5 hn5) | (go_at_call 197; (with_reducible refine (Hn5.out).mono ?_); rintro e w6 ⟨ho6, ⟨v6, rfl, rfl⟩, ha6⟩; have Ho6 := Lib.hid ho6; have Ha6 := Lib.hid ha6; clear ho6 ha6))
   go_ret
   exact ⟨Ho5.out.trans Ho6.out, ⟨_, rfl, rfl⟩, Ha6.out⟩
 | true =>
  have hM : valueP s a = if endOf s quoB (a + 1) < s.size ∧ endOf s quoB (a + 1) ≤ a + 61 then .ok (s.extract (a + 1) (endOf s quoB (a + 1)), endOf s quoB (a + 1) + 1) else .error (min (endOf s quoB (a + 1)) (a + 61)) := by unfold valueP; rw [if_pos hT]
  have has := (took_lt hT).1
  rw [hT, if_pos rfl] at ht
  have Ht := Lib.hid ht; have HM := Lib.hid hM
  clear ht hT hM
  go_enter Tryz.func223, Tryz.ntmps223
  go_upto_region 3 with (go_at_call 61; (with_reducible refine (Ht.out).mono ?_); rintro e w5 ⟨rfl, ha5, ho5⟩; have Ha5 := Lib.hid ha5; have Ho5 := Lib.hid ho5; clear ha5 ho5)
  obtain ⟨c0, c1, cf⟩ := Ha5.out.cells
  go_wp2_with fail
  clear c0 c1 cf
  go_loopg [] (s.size - a) (fun g wr => ∃ b : Nat, a + 1 ≤ b ∧ b + g = s.size + 1 ∧ b ≤ s.size ∧ b ≤ a + 61 ∧ Hid (At s br b wr) ∧ Hid (endOf s quoB (a + 1) = endOf s quoB b) ∧ Hid (OffR br w wr))
  case atStart => exact ⟨a + 1, Nat.le_refl _, by omega, by omega, by omega, Ha5, Lib.hid rfl, Ho5⟩
  case round =>
   obtain ⟨b, hab, hbg, hbs, hb60, hA, hE, hO⟩ := hrel
   obtain ⟨wo, rfl⟩ : ∃ wo : World, wo = wr := ⟨_, rfl⟩
   have htb := took_lit s br b 34 34 rfl wo hA.out
   cases hT : tookB s b 34 with
   | true =>
    obtain ⟨hb1, hb2⟩ := took_lt hT
    have hq : endOf s quoB (a + 1) = b := by rw [hE.out]; exact end_stop (by rw [hb2]; rintro ⟨_, h⟩; exact absurd h (by decide))
    have hR : valueP s a = .ok (s.extract (a + 1) b, b + 1) := by rw [HM.out, hq, if_pos ⟨hb1, hb60⟩]
    rw [hT, if_pos rfl] at htb
    have Htb := Lib.hid htb; have HR := Lib.hid hR
    clear htb hT hb2 hq hR
    go_upto_region 8 with (go_at_call 61; (with_reducible refine (Htb.out).mono ?_); rintro e w6 ⟨rfl, ha6, ho6⟩; have Ha6 := Lib.hid ha6; have Ho6 := Lib.hid (hO.out.trans ho6); clear ha6 ho6)
    obtain ⟨c0, c1, cf⟩ := Ha6.out.cells
    have hbw : IntKind.i64.wrap (((b + 1 : Nat) : Int) - 1) = (b : Int) := by rw [IntKind.wrap_i64]; omega
    have hbw2 : IntKind.i64.wrap ((b : Int) + 1 - 1) = (b : Int) := by rw [IntKind.wrap_i64]; omega
    have hq1 : (a : Int) + 1 ≤ (b : Int) := by omega
    have hq2 : (b : Int) ≤ (s.size : Int) := by omega
    have hq3 : ((a : Int) + 1).toNat = a + 1 := by omega
    go_region
    all_goals go_wp2_with fail
    all_goals go_ret
    all_goals rw [HR.out]
    all_goals first | exact ⟨Ho6.out.trans (Off.drew _ _), ⟨_, rfl, rfl⟩, Ha6.out.drew⟩ | exact ⟨Ho6.out, ⟨_, rfl, rfl⟩, Ha6.out⟩ | skip
   | false =>
    rw [hT, if_neg (by decide)] at htb
    by_cases hend : b = s.size ∨ b = a + 61
    ·have hR : valueP s a = .error b := by
      rw [HM.out]
      by_cases hbz : b = s.size
      ·have hq : endOf s quoB (a + 1) = b := by rw [hE.out]; exact end_stop (fun hx => by omega)
       rw [hq, if_neg (by omega), Nat.min_eq_left (by omega)]
      ·have hq : endOf s quoB (a + 1) = endOf s quoB (b + 1) := by
        rw [hE.out]
        refine end_step (by omega) ?_
        unfold tookB at hT
        rw [decide_eq_true (by omega), Bool.true_and] at hT
        unfold quoB bne
        rw [hT]; rfl
       have := (end_le (s := s) (p := quoB) (a := b + 1) (by omega)).1
       rw [hq, if_neg (by omega), Nat.min_eq_right (by omega)]
       congr 1; omega
     have Htb := Lib.hid htb; have HR := Lib.hid hR
     clear htb hT hR
     go_upto_region 5 with (go_at_call 61; (with_reducible refine (Htb.out).mono ?_); rintro e w6 ⟨rfl, ha6, ho6⟩; have Ha6 := Lib.hid ha6; have Ho6 := Lib.hid (hO.out.trans ho6); clear ha6 ho6)
     obtain ⟨c0, c1, cf⟩ := Ha6.out.cells
     have haw : IntKind.i64.wrap ((a : Int) + 1 + 60) = (a : Int) + 61 := by rw [IntKind.wrap_i64]; omega
     have hgv := fun W (hx : At s br b W) => give_calls s br b W hx
     have Hgv := Lib.hid hgv
     clear hgv
     by_cases hbz : b = s.size
     ·have hq : ((b : Int) == (s.size : Int)) = true := by rw [beq_iff_eq]; omega
      clear hend hbz
      go_region
      all_goals go_wp2_with (go_at_call 133; first | ((with_reducible refine (Hgv.out _ Ha6.out.drew).mono ?_); rintro e w7 ⟨rfl, rfl⟩) | ((with_reducible refine (Hgv.out _ Ha6.out).mono ?_); rintro e w7 ⟨rfl, rfl⟩))
      all_goals rw [HR.out]
      all_goals first | exact ⟨rfl, Ho6.out.trans (Off.drew _ _), rfl⟩ | exact ⟨rfl, Ho6.out, rfl⟩
     ·have hq : ((b : Int) == (s.size : Int)) = false := by rw [beq_eq_false_iff_ne]; omega
      have hq2 : ((b : Int) == (a : Int) + 61) = true := by rw [beq_iff_eq]; omega
      clear hend hbz
      go_region
      all_goals go_wp2_with (go_at_call 133; first | ((with_reducible refine (Hgv.out _ Ha6.out.drew).mono ?_); rintro e w7 ⟨rfl, rfl⟩) | ((with_reducible refine (Hgv.out _ Ha6.out).mono ?_); rintro e w7 ⟨rfl, rfl⟩))
      all_goals rw [HR.out]
      all_goals first | exact ⟨rfl, Ho6.out.trans (Off.drew _ _), rfl⟩ | exact ⟨rfl, Ho6.out, rfl⟩
    ·have hq : ((b : Int) == (s.size : Int)) = false := by rw [beq_eq_false_iff_ne]; omega
     have hq2 : ((b : Int) == (a : Int) + 61) = false := by rw [beq_eq_false_iff_ne]; omega
     have hE2 : endOf s quoB (a + 1) = endOf s quoB (b + 1) := by
      rw [hE.out]
      refine end_step (by omega) ?_
      unfold tookB at hT
      rw [decide_eq_true (by omega), Bool.true_and] at hT
      unfold quoB bne
      rw [hT]; rfl
     have haw : IntKind.i64.wrap ((a : Int) + 1 + 60) = (a : Int) + 61 := by rw [IntKind.wrap_i64]; omega
     have hbw : IntKind.i64.wrap ((b : Int) + 1) = (b : Int) + 1 := by rw [IntKind.wrap_i64]; omega
     have Htb := Lib.hid htb; have HE2 := Lib.hid hE2
     obtain ⟨g, rfl⟩ : ∃ g, gk = g + 1 := ⟨gk - 1, by omega⟩
     have hx1 : a + 1 ≤ b + 1 ∧ b + 1 + g = s.size + 1 ∧ b + 1 ≤ s.size ∧ b + 1 ≤ a + 61 := by omega
     have Hx1 := Lib.hid hx1
     clear htb hT hE2 hend hx1
     go_upto_region 5 with (go_at_call 61; (with_reducible refine (Htb.out).mono ?_); rintro e w6 ⟨rfl, ha6, ho6⟩; have Ha6 := Lib.hid ha6; have Ho6 := Lib.hid (hO.out.trans ho6); clear ha6 ho6)
     obtain ⟨c0, c1, cf⟩ := Ha6.out.cells
     have hset : At s br (b + 1) (w6.setCell ⟨br, 1, none⟩ (.int .i64 ((b : Int) + 1))) := Ha6.out.set (b := b + 1) (by have := Hx1.out; omega)
     have Hset := Lib.hid hset
     clear hset
     go_region
     all_goals go_wp2_with fail
     all_goals
      go_roundg g
      case measure => omega
      case rel => first | exact ⟨b + 1, Hx1.out.1, Hx1.out.2.1, Hx1.out.2.2.1, Hx1.out.2.2.2, Lib.hid Hset.out.drew, HE2, Lib.hid ((Ho6.out.trans (Off.setCell (Y := fun b => b = br) w6 ⟨br, 1, none⟩ _ rfl)).trans (Off.drew _ _))⟩ | exact ⟨b + 1, Hx1.out.1, Hx1.out.2.1, Hx1.out.2.2.1, Hx1.out.2.2.2, Hset, HE2, Lib.hid (Ho6.out.trans (Off.setCell (Y := fun b => b = br) w6 ⟨br, 1, none⟩ _ rfl))⟩
end Go.Proofs.YtmbhkkophkccbaaGreat.Pa
end
section
namespace Go.Proofs.YtmbhkkophkccbaaGreat.Fn
open Go Go.RowKit Go.Proofs.YtmbhkkophkccbaaGreat.Seq WS FS Mem Rd Shapes Word FFam Work
set_option linter.unusedVariables false
set_option linter.unusedSimpArgs false
def SmC (c : List Tst) : Prop := ∀ t ∈ c, t.name.size ≤ 1000
theorem nd_cells {w : World} {b : Nat} {n : Nd} {va vk : Value} (h : w.heap[b]? = some (.cells (ndC n va vk) 50 (0, 0))) : w.cell? ⟨b, 0, none⟩ = some (.int .i64 n.kind) ∧ w.cell? ⟨b, 1, none⟩ = some (.string n.name) ∧ w.cell? ⟨b, 2, none⟩ = some (.string n.text) ∧ w.cell? ⟨b, 3, none⟩ = some va ∧ w.cell? ⟨b, 4, none⟩ = some (.int .i64 n.parent) ∧ w.cell? ⟨b, 5, none⟩ = some vk :=
 ⟨(cell_of_row _ _ _ _ _ _ h).trans rfl, (cell_of_row _ _ _ _ _ _ h).trans rfl, (cell_of_row _ _ _ _ _ _ h).trans rfl, (cell_of_row _ _ _ _ _ _ h).trans rfl, (cell_of_row _ _ _ _ _ _ h).trans rfl, (cell_of_row _ _ _ _ _ _ h).trans rfl⟩
theorem ts_cells {w : World} {b : Nat} {t : Tst} (h : w.heap[b]? = some (.cells (tsC t) 106 (0, 0))) : w.cell? ⟨b, 0, none⟩ = some (.int .i64 t.kind) ∧ w.cell? ⟨b, 1, none⟩ = some (.string t.name) ∧ w.cell? ⟨b, 2, none⟩ = some (.string t.value) :=
 ⟨(cell_of_row _ _ _ _ _ _ h).trans rfl, (cell_of_row _ _ _ _ _ _ h).trans rfl, (cell_of_row _ _ _ _ _ _ h).trans rfl⟩
theorem fits1_calls (w : World) (n : Nd) (va vk : Value) (bn : Nat) (hb : w.heap[bn]? = some (.cells (ndC n va vk) 50 (0, 0))) (h : RdL attrE 2 w.heap.size w va n.attrs) (hn : Sm n) (t : Tst) (ht : t.name.size ≤ 1000) :
  Calls Tryz.prog 56 #[tsV t, .pointer (some ⟨bn, 0, none⟩)] w fun e w' => e = .returned (.bool (!soB n t)) ∧ Below w.heap.size w w' := by
 obtain ⟨w0, hw0⟩ : ∃ w0, w.alloc (.cells (tsC t) 106) = w0 := ⟨_, rfl⟩
 have hb0 : Below w.heap.size w w0 := by rw [← hw0]; exact (Below.refl _ _).alloc (Nat.le_refl _) _
 have q1 : w0.heap[w.heap.size]? = some (.cells (tsC t) 106 (0, 0)) := by rw [← hw0]; exact World.alloc_heap_new w _
 have q0 := (hb0.block _ (lt_heap hb)).trans hb
 have hs := so_calls w0 n t va vk ((h.below attrE_keeps hb0 (Nat.le_refl _)).mono attrE_keeps hb0.size) hn ht
 unfold SoPost at hs
 obtain ⟨Aa, ca, rfl, _, _, _⟩ := h.form
 obtain ⟨c0, c1, c2, c3, c4, c5⟩ := nd_cells q0
 obtain ⟨d0, d1, d2⟩ := ts_cells q1
 generalize soB n t = y at *
 have Hs := Lib.hid hs; have Hw0 := Lib.hid hw0; have Hb0 := Lib.hid hb0
 clear hs hw0 hb0 q0 q1 h hn ht hb
 go_enter Tryz.func56, Tryz.ntmps56
 go_upto_region 1 with fail
 rw [Hw0.out]
 go_wp2_with (go_at_call 57; (with_reducible refine (Hs.out).mono ?_); rintro e w5 ⟨rfl, hb5⟩; have Hb5 := Lib.hid hb5; clear hb5)
 go_ret
 exact ⟨rfl, bthen Hb0.out Hb5.out⟩
theorem fitsC_any (n : Nd) (c : List Tst) : fitsC n c = (decide (n.kind = 1) && !(c.any (fun t => !soB n t))) := by
 unfold fitsC
 congr 1
 induction c with
 | nil => rfl
 | cons t c ih => rw [List.all_cons, List.any_cons, ih]; cases soB n t <;> simp
theorem Fits_calls (w : World) (n : Nd) (va vk v : Value) (c : List Tst) (h : RdL attrE 2 w.heap.size w va n.attrs) (hc : RdL testE 3 w.heap.size w v c) (hn : Sm n) (ht : SmC c) :
  Calls Tryz.prog 25 #[ndV n va vk, v] w (SoPost (fitsC n c) w) := by
 obtain ⟨w0, hw0⟩ : ∃ w0, w.alloc (.cells (ndC n va vk) 50) = w0 := ⟨_, rfl⟩
 have hb0 : Below w.heap.size w w0 := by rw [← hw0]; exact (Below.refl _ _).alloc (Nat.le_refl _) _
 have q0 : w0.heap[w.heap.size]? = some (.cells (ndC n va vk) 50 (0, 0)) := by rw [← hw0]; exact World.alloc_heap_new w _
 have hr := (h.below attrE_keeps hb0 (Nat.le_refl _)).mono attrE_keeps hb0.size
 have hcon := ContainsTest_calls w0 v c ((hc.below testE_keeps hb0 (Nat.le_refl _)).mono testE_keeps hb0.size) (fun t => !soB n t) (.pointer (some ⟨w.heap.size, 0, none⟩)) (fun w' hb i hi _ => fits1_calls w' n va vk _ ((hb.block _ (lt_heap q0)).trans q0) ((hr.below attrE_keeps hb (Nat.le_refl _)).mono attrE_keeps hb.size) hn c[i] (ht _ (List.getElem_mem hi)))
 obtain ⟨Aa, ca, rfl, _, _, _⟩ := h.form
 obtain ⟨Ac, cc, rfl, _, _, _⟩ := hc.form
 have c0 := (nd_cells q0).1
 rw [fitsC_any]
 generalize c.any (fun t => !soB n t) = y at *
 have Hc := Lib.hid hcon; have Hw0 := Lib.hid hw0; have Hb0 := Lib.hid hb0
 clear hcon hw0 hb0 q0 h hn ht hc hr
 by_cases hk : n.kind = 1
 ·have hk1 : (n.kind == 1) = true := by rw [beq_iff_eq]; exact hk
  rw [decide_eq_true hk]
  clear hk
  generalize n.kind = kd at *
  go_enter Tryz.func25, Tryz.ntmps25
  go_upto_region 1 with fail
  rw [Hw0.out]
  go_wp2_with (go_at_call 55; (with_reducible refine (Hc.out).mono ?_); rintro e w5 ⟨rfl, hb5⟩; have Hb5 := Lib.hid hb5; clear hb5)
  go_ret
  exact ⟨rfl, bthen Hb0.out Hb5.out⟩
 ·have hk1 : (n.kind == 1) = false := by rw [beq_eq_false_iff_ne]; exact hk
  rw [decide_eq_false hk]
  clear hk
  generalize n.kind = kd at *
  go_enter Tryz.func25, Tryz.ntmps25
  go_upto_region 1 with fail
  rw [Hw0.out]
  go_wp2_with fail
  go_ret
  exact ⟨rfl, Hb0.out⟩
end Go.Proofs.YtmbhkkophkccbaaGreat.Fn
end
section
namespace Go.Proofs.YtmbhkkophkccbaaGreat.Pa
open Go Go.RowKit Go.Proofs.YtmbhkkophkccbaaGreat.Seq WS FS Mem Rd Shapes Word FFam Work Fn
set_option linter.unusedVariables false
set_option linter.unusedSimpArgs false
def endP (s : ByteArray) (a : Nat) (t : Tst) : Except Nat (Tst × Nat) := if tookB s a 93 = true then .ok (t, a + 1) else .error a
def bracketsP (s : ByteArray) (a : Nat) : Except Nat (Tst × Nat) :=
 match nameP s (endOf s blkB a) with
 | .error e => .error e
 | .ok x => if tookB s (endOf s blkB x.2) 61 = true then
   (match valueP s (endOf s blkB (endOf s blkB x.2 + 1)) with
   | .error e => .error e
   | .ok y => endP s (endOf s blkB y.2) { kind := 5, name := x.1, value := y.1 })
  else endP s (endOf s blkB x.2) { kind := 4, name := x.1 }
theorem off_row {br b : Nat} {w w' : World} {o : Obj} (h : OffR br w w') (hb : w.heap[b]? = some o) (hn : b ≠ br) : w'.heap[b]? = some o := h.keep hb hn
theorem off_alloc {br : Nat} (w : World) (o : Obj) : OffR br w (w.alloc o) := Off.alloc _ _ _
theorem off_set {br b : Nat} {w w' : World} (h : OffR br w w') (hb : w.heap.size ≤ b) (j : Nat) (u : Value) : OffR br w (w'.setCell ⟨b, j, none⟩ u) :=
 ⟨h.os, h.tape, h.output, Nat.le_trans h.size (by simp [World.setCell]), fun k hk hn => (Below.heap_setCell _ _ _ _ (by show k ≠ b; omega)).trans (h.block k hk hn)⟩
theorem at_off {s : ByteArray} {br a b : Nat} {w : World} (h : At s br a w) (hb : b ≠ br) (j : Nat) (u : Value) : At s br a (w.setCell ⟨b, j, none⟩ u) := ⟨(Below.heap_setCell _ _ _ _ (fun e => hb e.symm)).trans h.row, h.le, h.small⟩
theorem at_alloc {s : ByteArray} {br a : Nat} {w : World} (h : At s br a w) (o : Obj) : At s br a (w.alloc o) := ⟨heap_old h.row, h.le, h.small⟩
theorem at_lt {s : ByteArray} {br a : Nat} {w : World} (h : At s br a w) : br < w.heap.size := lt_heap h.row
set_option maxRecDepth 100000 in
set_option maxHeartbeats 4000000 in
theorem brackets_calls (s : ByteArray) (br a : Nat) (w : World) (h : At s br a w) : Calls Tryz.prog 198 #[.pointer (some ⟨br, 0, none⟩)] w (PP s br w (bracketsP s a) (fun x v _ => v = tsV x)) := by
 have hle := h.le
 have hsm := h.small
 have hbr := at_lt h
 obtain ⟨w0, hw0⟩ : ∃ w0, w.alloc (.cells #[.int .i64 0, .string ⟨#[]⟩, .string ⟨#[]⟩] 106) = w0 := ⟨_, rfl⟩
 have h0 : At s br a w0 := by rw [← hw0]; exact at_alloc h _
 have ho0 : OffR br w w0 := by rw [← hw0]; exact off_alloc w _
 have q0 : w0.heap[w.heap.size]? = some (.cells #[.int .i64 0, .string ⟨#[]⟩, .string ⟨#[]⟩] 106 (0, 0)) := by rw [← hw0]; exact World.alloc_heap_new w _
 have hbl := blanks_calls s br a w0 h0
 have hne : w.heap.size ≠ br := by omega
 have Hw0 := Lib.hid hw0; have Ho0 := Lib.hid ho0; have Hq0 := Lib.hid q0; have Hbl := Lib.hid hbl
 clear hw0 ho0 q0 hbl h h0
 obtain ⟨M, hM⟩ : ∃ M, M = bracketsP s a := ⟨_, rfl⟩
 rw [← hM]
 unfold bracketsP at hM
 cases hN : nameP s (endOf s blkB a) with
 | error b =>
  rw [hN] at hM
  have HM := Lib.hid hM
  clear hM
  go_enter Tryz.func198, Tryz.ntmps198
  go_upto_region 1 with fail
  rw [Hw0.out]
  go_wp2_with (first | (go_at_call 130; (with_reducible refine (Hbl.out).mono ?_); rintro e w5 ⟨rfl, ha5, ho5⟩; have hn5 := name_calls s br _ w5 ha5; rw [hN] at hn5; have Hn5 := Lib.hid hn5; have Ho5 := Lib.hid (Ho0.out.trans ho5); have Hq5 := Lib.hid (off_row ho5 Hq0.out hne); clear ha5 ho5 hn5) | (go_at_call 197; (with_reducible refine (Hn5.out).mono ?_); rintro e w6 ⟨ho6, rfl⟩; have Ho6 := Lib.hid (Ho5.out.trans ho6); clear ho6))
  rw [HM.out]
  exact ⟨rfl, Ho6.out, rfl⟩
 | ok x =>
  obtain ⟨nm, a2⟩ := x
  rw [hN] at hM
  try simp only at hM
  have HM := Lib.hid hM
  clear hM
  go_enter Tryz.func198, Tryz.ntmps198
  go_upto_region 1 with fail
  rw [Hw0.out]
  go_upto_region 3 with (first | (go_at_call 130; (with_reducible refine (Hbl.out).mono ?_); rintro e w5 ⟨rfl, ha5, ho5⟩; have hn5 := name_calls s br _ w5 ha5; rw [hN] at hn5; have Hn5 := Lib.hid hn5; have Ho5 := Lib.hid (Ho0.out.trans ho5); have Hq5 := Lib.hid (off_row ho5 Hq0.out hne); clear ha5 ho5 hn5) | (go_at_call 197; (with_reducible refine (Hn5.out).mono ?_); rintro e w6 ⟨ho6, ⟨v6, rfl, rfl⟩, ha6⟩; have Ho6 := Lib.hid (Ho5.out.trans ho6); have Ha6 := Lib.hid ha6; have Hq6 := Lib.hid (off_row ho6 Hq5.out hne); clear ho6 ha6))
  try simp only
  obtain ⟨w7, hw7⟩ : ∃ w7, w6.alloc (.cells #[.int .i64 4, .string nm, .string ⟨#[]⟩] 106) = w7 := ⟨_, rfl⟩
  have h7 : At s br a2 w7 := by rw [← hw7]; exact at_alloc Ha6.out _
  have ho7 : OffR br w w7 := by rw [← hw7]; exact Ho6.out.trans (off_alloc w6 _)
  have q7 : w7.heap[w6.heap.size]? = some (.cells (tsC { kind := 4, name := nm }) 106 (0, 0)) := by rw [← hw7]; exact World.alloc_heap_new w6 _
  have p7 : w7.heap[w.heap.size]? = some (.cells (tsC {}) 106 (0, 0)) := by rw [← hw7]; exact heap_old Hq6.out
  have hne6 : w6.heap.size ≠ br := by have := at_lt Ha6.out; omega
  have hnew : w.heap.size ≤ w6.heap.size := Ho6.out.size
  have hnb : w6.heap.size ≠ w.heap.size := by have := lt_heap Hq6.out; omega
  rw [hw7]
  have hbl7 := blanks_calls s br a2 w7 h7
  have Hbl7 := Lib.hid hbl7; have Ho7 := Lib.hid ho7; have Hq7 := Lib.hid q7; have Hp7 := Lib.hid p7
  clear hbl7 ho7 q7 p7 hw7 h7 hN
  go_upto_region 4 with (go_at_call 130; (with_reducible refine (Hbl7.out).mono ?_); rintro e w8 ⟨rfl, ha, ho⟩; have Ha8 := Lib.hid ha; have Ho8 := Lib.hid (Ho7.out.trans ho); have Hq8 := Lib.hid (off_row ho Hq7.out hne6); have Hp8 := Lib.hid (off_row ho Hp7.out hne); clear ha ho)
  obtain ⟨a3, ha3⟩ : ∃ a3, a3 = endOf s blkB a2 := ⟨_, rfl⟩
  rw [← ha3] at Ha8 HM
  clear ha3
  have htk := took_lit s br a3 61 61 rfl w8 Ha8.out
  cases hT : tookB s a3 61 with
  | false =>
   have hM := HM.out
   rw [hT, if_neg (by decide)] at htk hM
   have Htk := Lib.hid htk; have HM2 := Lib.hid hM
   clear htk hM HM hT
   go_upto_region 8 with (go_at_call 61; (with_reducible refine (Htk.out).mono ?_); rintro e w9 ⟨rfl, ha, ho⟩; have Ha9 := Lib.hid ha; have Ho9 := Lib.hid (Ho8.out.trans ho); have Hq9 := Lib.hid (off_row ho Hq8.out hne6); have Hp9 := Lib.hid (off_row ho Hp8.out hne); clear ha ho)
   have hnd := need_lit s br a3 93 93 rfl w9 Ha9.out
   unfold needP at hnd
   cases hK : tookB s a3 93 with
   | false =>
    rw [hK, if_neg (by decide)] at hnd
    have hR : M = .error a3 := by rw [HM2.out]; unfold endP; rw [hK, if_neg (by decide)]
    have Hnd := Lib.hid hnd; have HR := Lib.hid hR
    clear hnd hK hR
    go_wp2_with (go_at_call 224; (with_reducible refine (Hnd.out).mono ?_); rintro e wx ⟨hox, rfl⟩; have Hox := Lib.hid (Ho9.out.trans hox); clear hox)
    rw [HR.out]
    exact ⟨rfl, Hox.out, rfl⟩
   | true =>
    rw [hK, if_pos rfl] at hnd
    have hR : M = .ok ({ kind := 4, name := nm, value := ⟨#[]⟩ }, a3 + 1) := by rw [HM2.out]; unfold endP; rw [hK, if_pos rfl]
    have Hnd := Lib.hid hnd; have HR := Lib.hid hR
    clear hnd hK hR
    go_upto_region 9 with (go_at_call 224; (with_reducible refine (Hnd.out).mono ?_); rintro e wx ⟨hox, ⟨vx, rfl, rfl⟩, hax⟩; have Hax := Lib.hid hax; have Hox := Lib.hid (Ho9.out.trans hox); have Hqx := Lib.hid (off_row hox Hq9.out hne6); have Hpx := Lib.hid (off_row hox Hp9.out hne); clear hox hax)
    obtain ⟨d0, d1, d2⟩ := ts_cells (t := { kind := 4, name := nm, value := ⟨#[]⟩ }) Hqx.out
    obtain ⟨f0, f1, f2⟩ := ts_cells (t := {}) Hpx.out
    have ff := free_of Hpx.out
    try simp only at d0 d1 d2 f0 f1 f2
    go_wp2_with fail
    obtain ⟨WF, hWF⟩ : ∃ WF, ((wx.setCell ⟨w.heap.size, 0, none⟩ (.int .i64 4)).setCell ⟨w.heap.size, 1, none⟩ (.string nm)).setCell ⟨w.heap.size, 2, none⟩ (.string ⟨#[]⟩) = WF := ⟨_, rfl⟩
    have hrowF : WF.heap[w.heap.size]? = some (.cells (tsC { kind := 4, name := nm, value := ⟨#[]⟩ }) 106 (0, 0)) := by rw [← hWF]; exact (Repl.setCell_row (Repl.setCell_row (Repl.setCell_row Hpx.out))).trans rfl
    have hoF : OffR br w WF := by rw [← hWF]; exact off_set (off_set (off_set Hox.out (Nat.le_refl _) _ _) (Nat.le_refl _) _ _) (Nat.le_refl _) _ _
    have haF : At s br (a3 + 1) WF := by rw [← hWF]; exact at_off (at_off (at_off Hax.out hne _ _) hne _ _) hne _ _
    obtain ⟨z0, z1, z2⟩ := ts_cells hrowF
    try simp only at z0 z1 z2
    rw [hWF]
    refine bodyPost_ret (v := tsV { kind := 4, name := nm, value := ⟨#[]⟩ }) ?_ rfl ?_
    ·simp [results, go_sem, Tryz.results198, z0, z1, z2]
    ·rw [HR.out]
     exact ⟨hoF, ⟨_, rfl, rfl⟩, haF⟩
  | true =>
   have hM := HM.out
   rw [hT, if_pos rfl] at htk hM
   have Htk := Lib.hid htk; have HM2 := Lib.hid hM
   clear htk hM HM hT
   go_upto_region 5 with (go_at_call 61; (with_reducible refine (Htk.out).mono ?_); rintro e w9 ⟨rfl, ha, ho⟩; have Ha9 := Lib.hid ha; have Ho9 := Lib.hid (Ho8.out.trans ho); have Hq9 := Lib.hid (off_row ho Hq8.out hne6); have Hp9 := Lib.hid (off_row ho Hp8.out hne); clear ha ho)
   have hbl9 := blanks_calls s br _ w9 Ha9.out
   have Hbl9 := Lib.hid hbl9
   clear hbl9
   go_upto_region 6 with (go_at_call 130; (with_reducible refine (Hbl9.out).mono ?_); rintro e w10 ⟨rfl, ha, ho⟩; have Ha10 := Lib.hid ha; have Ho10 := Lib.hid (Ho9.out.trans ho); have Hq10 := Lib.hid (off_row ho Hq9.out hne6); have Hp10 := Lib.hid (off_row ho Hp9.out hne); clear ha ho)
   have hvl := value_calls s br _ w10 Ha10.out
   cases hV : valueP s (endOf s blkB (a3 + 1)) with
   | error b =>
    have hM := HM2.out
    rw [hV] at hvl hM
    have Hvl := Lib.hid hvl; have HR := Lib.hid hM
    clear hvl hM hV HM2
    go_wp2_with (go_at_call 223; (with_reducible refine (Hvl.out).mono ?_); rintro e wx ⟨hox, rfl⟩; have Hox := Lib.hid (Ho10.out.trans hox); clear hox)
    rw [HR.out]
    exact ⟨rfl, Hox.out, rfl⟩
   | ok y =>
    obtain ⟨vl, a5⟩ := y
    have hM := HM2.out
    rw [hV] at hvl hM
    try simp only at hM
    have Hvl := Lib.hid hvl; have HM3 := Lib.hid hM
    clear hvl hM hV HM2
    obtain ⟨d0, d1, d2⟩ := ts_cells (t := { kind := 4, name := nm }) Hq10.out
    have df := free_of Hq10.out
    try simp only at d0 d1 d2
    have hcell := fun w' (ho : OffR br w10 w') => ts_cells (t := { kind := 4, name := nm }) (off_row ho Hq10.out hne6)
    have hfree := fun w' (ho : OffR br w10 w') => free_of (off_row ho Hq10.out hne6)
    have Hcell := Lib.hid hcell; have Hfree := Lib.hid hfree
    clear d0 d1 d2 df hcell hfree
    go_upto_region 7 with (go_at_call 223; (with_reducible refine (Hvl.out).mono ?_); rintro e w11 ⟨ho, ⟨v11, rfl, rfl⟩, ha⟩; obtain ⟨d0, d1, d2⟩ := Hcell.out _ ho; have df := Hfree.out _ ho; have Ha11 := Lib.hid ha; have Ho11 := Lib.hid (Ho10.out.trans ho); have Hq11 := Lib.hid (off_row ho Hq10.out hne6); have Hp11 := Lib.hid (off_row ho Hp10.out hne); clear ho ha)
    try simp only
    obtain ⟨w12, hw12⟩ : ∃ w12, (w11.setCell ⟨w6.heap.size, 0, none⟩ (.int .i64 5)).setCell ⟨w6.heap.size, 2, none⟩ (.string vl) = w12 := ⟨_, rfl⟩
    have h12 : At s br a5 w12 := by rw [← hw12]; exact at_off (at_off Ha11.out hne6 _ _) hne6 _ _
    have ho12 : OffR br w w12 := by rw [← hw12]; exact off_set (off_set Ho11.out hnew _ _) hnew _ _
    have q12 : w12.heap[w6.heap.size]? = some (.cells (tsC { kind := 5, name := nm, value := vl }) 106 (0, 0)) := by rw [← hw12]; exact (Repl.setCell_row (Repl.setCell_row Hq11.out)).trans rfl
    have p12 : w12.heap[w.heap.size]? = some (.cells (tsC {}) 106 (0, 0)) := by rw [← hw12]; exact (Below.heap_setCell _ _ _ _ (fun e => hnb e.symm)).trans ((Below.heap_setCell _ _ _ _ (fun e => hnb e.symm)).trans Hp11.out)
    rw [hw12]
    have hbl12 := blanks_calls s br a5 w12 h12
    have Hbl12 := Lib.hid hbl12; have Ho12 := Lib.hid ho12; have Hq12 := Lib.hid q12; have Hp12 := Lib.hid p12
    clear hbl12 ho12 q12 p12 hw12 h12 d0 d1 d2 df
    go_upto_region 8 with (go_at_call 130; (with_reducible refine (Hbl12.out).mono ?_); rintro e w13 ⟨rfl, ha, ho⟩; have Ha13 := Lib.hid ha; have Ho13 := Lib.hid (Ho12.out.trans ho); have Hq13 := Lib.hid (off_row ho Hq12.out hne6); have Hp13 := Lib.hid (off_row ho Hp12.out hne); clear ha ho)
    obtain ⟨a6, ha6⟩ : ∃ a6, a6 = endOf s blkB a5 := ⟨_, rfl⟩
    rw [← ha6] at Ha13 HM3
    clear ha6
    have hnd := need_lit s br a6 93 93 rfl w13 Ha13.out
    unfold needP at hnd
    cases hK : tookB s a6 93 with
    | false =>
     rw [hK, if_neg (by decide)] at hnd
     have hR : M = .error a6 := by rw [HM3.out]; unfold endP; rw [hK, if_neg (by decide)]
     have Hnd := Lib.hid hnd; have HR := Lib.hid hR
     clear hnd hK hR
     go_wp2_with (go_at_call 224; (with_reducible refine (Hnd.out).mono ?_); rintro e wx ⟨hox, rfl⟩; have Hox := Lib.hid (Ho13.out.trans hox); clear hox)
     rw [HR.out]
     exact ⟨rfl, Hox.out, rfl⟩
    | true =>
     rw [hK, if_pos rfl] at hnd
     have hR : M = .ok ({ kind := 5, name := nm, value := vl }, a6 + 1) := by rw [HM3.out]; unfold endP; rw [hK, if_pos rfl]
     have Hnd := Lib.hid hnd; have HR := Lib.hid hR
     clear hnd hK hR
     go_upto_region 9 with (go_at_call 224; (with_reducible refine (Hnd.out).mono ?_); rintro e wx ⟨hox, ⟨vx, rfl, rfl⟩, hax⟩; have Hax := Lib.hid hax; have Hox := Lib.hid (Ho13.out.trans hox); have Hqx := Lib.hid (off_row hox Hq13.out hne6); have Hpx := Lib.hid (off_row hox Hp13.out hne); clear hox hax)
     obtain ⟨d0, d1, d2⟩ := ts_cells (t := { kind := 5, name := nm, value := vl }) Hqx.out
     obtain ⟨f0, f1, f2⟩ := ts_cells (t := {}) Hpx.out
     have ff := free_of Hpx.out
     try simp only at d0 d1 d2 f0 f1 f2
     go_wp2_with fail
     obtain ⟨WF, hWF⟩ : ∃ WF, ((wx.setCell ⟨w.heap.size, 0, none⟩ (.int .i64 5)).setCell ⟨w.heap.size, 1, none⟩ (.string nm)).setCell ⟨w.heap.size, 2, none⟩ (.string vl) = WF := ⟨_, rfl⟩
     have hrowF : WF.heap[w.heap.size]? = some (.cells (tsC { kind := 5, name := nm, value := vl }) 106 (0, 0)) := by rw [← hWF]; exact (Repl.setCell_row (Repl.setCell_row (Repl.setCell_row Hpx.out))).trans rfl
     have hoF : OffR br w WF := by rw [← hWF]; exact off_set (off_set (off_set Hox.out (Nat.le_refl _) _ _) (Nat.le_refl _) _ _) (Nat.le_refl _) _ _
     have haF : At s br (a6 + 1) WF := by rw [← hWF]; exact at_off (at_off (at_off Hax.out hne _ _) hne _ _) hne _ _
     obtain ⟨z0, z1, z2⟩ := ts_cells hrowF
     try simp only at z0 z1 z2
     rw [hWF]
     refine bodyPost_ret (v := tsV { kind := 5, name := nm, value := vl }) ?_ rfl ?_
     ·simp [results, go_sem, Tryz.results198, z0, z1, z2]
     ·rw [HR.out]
      exact ⟨hoF, ⟨_, rfl, rfl⟩, haF⟩
end Go.Proofs.YtmbhkkophkccbaaGreat.Pa
end
section
namespace Go.Proofs.YtmbhkkophkccbaaGreat.Pa
open Go Go.RowKit Go.Proofs.YtmbhkkophkccbaaGreat.Seq WS FS Mem Rd Shapes Word FFam Work Fn OwnF
set_option linter.unusedVariables false
set_option linter.unusedSimpArgs false
abbrev ElS (α : Type) := (Nat → Prop) → World → List Value → α → Prop
def ElS.Keeps {α : Type} (E : ElS α) : Prop := ∀ (S S' : Nat → Prop) (w w' : World) cs x, E S w cs x → (∀ b, S b → b < w.heap.size → w'.heap[b]? = w.heap[b]?) → w.heap.size ≤ w'.heap.size → (∀ b, S b → b < w.heap.size → S' b) → E S' w' cs x
structure OwnE {α : Type} (E : ElS α) (T : TypeId) (sz base br : Nat) (w : World) (v : Value) (l : List α) : Prop where
 out : ∃ xs, w.ownsRow base T sz v l.length xs ∧ ∀ i (hi : i < l.length), E (fun b => v.ownBlock ≠ some b ∧ base ≤ b) w ((xs.drop (i * sz)).take sz) l[i]
section
variable {α : Type} {E : ElS α} {T : TypeId} {sz base br : Nat} {w w' : World} {v : Value} {l : List α}
theorem OwnE.nil : OwnE E T sz base br w (.slice none 0 0) [] := ⟨[], World.ownsRow_nil _ _ _ _, fun i hi => absurd hi (by simp)⟩
theorem OwnE.keep (hE : E.Keeps) (h : OwnE E T sz base br w v l) (hk : ∀ b, b < w.heap.size → b ≠ br → w'.heap[b]? = w.heap[b]?) (hs : w.heap.size ≤ w'.heap.size) (hbr : br < base) : OwnE E T sz base br w' v l := by
 obtain ⟨xs, h1, h2⟩ := h.out
 exact ⟨xs, own_keep h1 (fun g hg => hk g (h1.lt g hg).2 (by have := (h1.lt g hg).1; omega)), fun i hi => hE _ _ _ _ _ _ (h2 i hi) (fun b hb hlt => hk b hlt (by have := hb.2; omega)) hs (fun _ x _ => x)⟩
theorem OwnE.more (hE : E.Keeps) {v' : Value} {x : α} {xs news : List Value} (h1 : w.ownsRow base T sz v l.length xs) (h2 : ∀ i (hi : i < l.length), E (fun b => v.ownBlock ≠ some b ∧ base ≤ b) w ((xs.drop (i * sz)).take sz) l[i]) (hn : news.length = sz)
  (hg : E (fun b => v.ownBlock ≠ some b ∧ base ≤ b) w news x) (ho : w'.ownsRow base T sz v' (l.length + 1) (xs ++ news)) (hgr : w.grownBy w' v.ownBlock) (hat : v'.ownBlock = v.ownBlock ∨ v'.ownBlock = some w.heap.size) : OwnE E T sz base br w' v' (l ++ [x]) := by
 have hx := h1.1
 have hk : ∀ b, (v.ownBlock ≠ some b ∧ base ≤ b) → b < w.heap.size → w'.heap[b]? = w.heap[b]? := fun b hb hlt => hgr.block b hlt (fun e => hb.1 e.symm)
 have hS : ∀ b, (v.ownBlock ≠ some b ∧ base ≤ b) → b < w.heap.size → (v'.ownBlock ≠ some b ∧ base ≤ b) := fun b hb hlt => by
  refine ⟨?_, hb.2⟩
  rcases hat with e | e
  ·rw [e]; exact hb.1
  ·rw [e]; intro e2; injection e2 with e2; omega
 refine ⟨xs ++ news, by rw [List.length_append, List.length_singleton]; exact ho, fun i hi => ?_⟩
 rw [List.length_append, List.length_singleton] at hi
 by_cases hif : i < l.length
 ·have hle : i * sz + sz ≤ xs.length := by
   rw [hx]
   have : (i + 1) * sz ≤ l.length * sz := Nat.mul_le_mul_right _ hif
   rwa [Nat.add_mul, Nat.one_mul] at this
  rw [List.getElem_append_left hif, List.drop_append_of_le_length (by omega), List.take_append_of_le_length (by rw [List.length_drop]; omega)]
  exact hE _ _ _ _ _ _ (h2 i hif) hk hgr.size hS
 ·obtain rfl : i = l.length := by omega
  rw [List.getElem_append_right (by omega), List.drop_append, List.drop_eq_nil_of_le (by omega), List.nil_append, show l.length * sz - xs.length = 0 by omega, List.drop_zero, List.take_of_length_le (by omega)]
  simp only [Nat.sub_self, List.getElem_cons_zero]
  exact hE _ _ _ _ _ _ hg hk hgr.size hS
theorem OwnE.form (h : OwnE E T sz base br w v l) : ∃ A c, v = .slice A l.length c := by
 obtain ⟨xs, h1, _⟩ := h.out
 exact LShown.slice_of h1
end
def testS : ElS Tst := fun _ _ cs t => cs = [.int .i64 t.kind, .string t.name, .string t.value] ∧ t.name.size ≤ 60 ∧ t.value.size ≤ 60 ∧ (Lit.int .i64 t.kind).wf = true
theorem testS_keeps : testS.Keeps := fun _ _ _ _ _ _ h _ _ _ => h
def RdE {α : Type} (E : ElS α) (sz : Nat) (S : Nat → Prop) (w : World) (v : Value) (l : List α) : Prop := RdS (E S w) sz S w v l
theorem RdE.keep {α : Type} {E : ElS α} {sz : Nat} {S S' : Nat → Prop} {w w' : World} {v : Value} {l : List α} (hE : E.Keeps) (h : RdE E sz S w v l) (hk : ∀ b, S b → b < w.heap.size → w'.heap[b]? = w.heap[b]?) (hs : w.heap.size ≤ w'.heap.size) (hS : ∀ b, S b → b < w.heap.size → S' b) : RdE E sz S' w' v l := by
 obtain ⟨A, c, hv, h1, h2, h3⟩ := RdS.keep h hk hs hS
 refine ⟨A, c, hv, h1, h2, fun h0 => ?_⟩
 obtain ⟨b, o, e, hb, hlt, hc⟩ := h3 h0
 exact ⟨b, o, e, hb, hlt, fun i hi => by
  obtain ⟨cs, h4, h5, h6⟩ := hc i hi
  exact ⟨cs, h4, h5, hE _ _ _ _ _ _ h6 hk hs hS⟩⟩
theorem OwnE.rd {α : Type} {E : ElS α} {T : TypeId} {sz base br : Nat} {w : World} {v : Value} {l : List α} (hE : E.Keeps) (h : OwnE E T sz base br w v l) (hbr : br < base) : RdE E sz (fun b => base ≤ b) w v l := by
 obtain ⟨xs, h1, h2⟩ := h.out
 exact RdS.of_own h1 rfl (fun g hg => (h1.lt g hg).1) (fun i hi => hE _ _ _ _ _ _ (h2 i hi) (fun _ _ _ => rfl) (Nat.le_refl _) (fun b x _ => x.2))
def compLoop (s : ByteArray) (beg : Nat) : Nat → List Tst → Nat → Except Nat (List Tst × Nat)
 | 0, _, a => .error a
 | n + 1, c, a =>
  if nextB s a = 46 then (match nameP s (a + 1) with | .error e => .error e | .ok x => compLoop s beg n (c ++ [{ kind := 3, name := x.1 }]) x.2)
  else if nextB s a = 35 then (match nameP s (a + 1) with | .error e => .error e | .ok x => compLoop s beg n (c ++ [{ kind := 2, name := x.1 }]) x.2)
  else if nextB s a = 91 then (match bracketsP s (a + 1) with | .error e => .error e | .ok x => compLoop s beg n (c ++ [x.1]) x.2)
  else if a = beg then .error a else .ok (c, a)
def compoundP (s : ByteArray) (a : Nat) : Except Nat (List Tst × Nat) :=
 if tookB s a 42 = true then compLoop s a (s.size + 1 - a) [] (a + 1)
 else if letterB (nextB s a) = true then (match nameP s a with | .error e => .error e | .ok x => compLoop s a (s.size + 1 - a) [{ kind := 1, name := x.1 }] x.2)
 else compLoop s a (s.size + 1 - a) [] a
theorem extract_size (s : ByteArray) (a b : Nat) : (s.extract a b).size ≤ b - a := by
 rw [ByteArray.size_extract]
 omega
theorem name_ok {s : ByteArray} {a : Nat} {x : ByteArray × Nat} (h : nameP s a = .ok x) (ha : a ≤ s.size) : x.1.size ≤ 20 ∧ a < x.2 ∧ x.2 ≤ s.size := by
 unfold nameP at h
 split at h
 ·rename_i hl
  split at h
  ·rename_i h20
   injection h with h
   subst h
   have hlt : a < s.size := by
    by_cases hx : a < s.size
    ·exact hx
    ·rw [next_no hx] at hl; exact absurd hl (by decide)
   have hnm : nmB (nextB s a) = true := by unfold nmB; rw [hl]; rfl
   have h1 := end_step (s := s) (p := nmB) hlt hnm
   have h2 := end_le (s := s) (p := nmB) (a := a + 1) (by omega)
   have h3 := extract_size s a (endOf s nmB a)
   refine ⟨by show (s.extract a (endOf s nmB a)).size ≤ 20; omega, ?_, ?_⟩
   ·show a < endOf s nmB a; omega
   ·show endOf s nmB a ≤ s.size; omega
  ·cases h
 ·cases h
theorem value_ok {s : ByteArray} {a : Nat} {x : ByteArray × Nat} (h : valueP s a = .ok x) (ha : a ≤ s.size) : x.1.size ≤ 60 ∧ a < x.2 ∧ x.2 ≤ s.size := by
 unfold valueP at h
 split at h
 ·rename_i ht
  have hlt := (took_lt ht).1
  split at h
  ·rename_i h6
   injection h with h
   subst h
   have h2 := end_le (s := s) (p := quoB) (a := a + 1) (by omega)
   have h3 := extract_size s (a + 1) (endOf s quoB (a + 1))
   refine ⟨by show (s.extract (a + 1) (endOf s quoB (a + 1))).size ≤ 60; omega, ?_, ?_⟩
   ·show a < endOf s quoB (a + 1) + 1; omega
   ·show endOf s quoB (a + 1) + 1 ≤ s.size; omega
  ·cases h
 ·have := name_ok h ha
  exact ⟨by omega, this.2⟩
theorem end_ok {s : ByteArray} {a : Nat} {t : Tst} {x : Tst × Nat} (h : endP s a t = .ok x) : x = (t, a + 1) ∧ a + 1 ≤ s.size := by
 unfold endP at h
 split at h
 ·rename_i ht
  injection h with h
  exact ⟨h.symm, (took_lt ht).1⟩
 ·cases h
theorem brackets_ok {s : ByteArray} {a : Nat} {x : Tst × Nat} (h : bracketsP s a = .ok x) (ha : a ≤ s.size) : (x.1.name.size ≤ 60 ∧ x.1.value.size ≤ 60 ∧ (Lit.int .i64 x.1.kind).wf = true) ∧ a < x.2 ∧ x.2 ≤ s.size := by
 unfold bracketsP at h
 have hb := fun b (hb : b ≤ s.size) => end_le (s := s) (p := blkB) (a := b) hb
 cases hN : nameP s (endOf s blkB a) with
 | error e => rw [hN] at h; cases h
 | ok y =>
  rw [hN] at h
  simp only at h
  have h1 := name_ok hN (hb a ha).2
  have h2 := hb y.2 h1.2.2
  have h0 := hb a ha
  split at h
  ·rename_i ht
   have hlt := (took_lt ht).1
   have h3 := hb (endOf s blkB y.2 + 1) (by omega)
   cases hV : valueP s (endOf s blkB (endOf s blkB y.2 + 1)) with
   | error e => rw [hV] at h; cases h
   | ok z =>
    rw [hV] at h
    simp only at h
    have h4 := value_ok hV h3.2
    have h5 := hb z.2 h4.2.2
    obtain ⟨rfl, h6⟩ := end_ok h
    exact ⟨⟨by show y.1.size ≤ 60; omega, h4.1, rfl⟩, by show a < endOf s blkB z.2 + 1; omega, h6⟩
  ·obtain ⟨rfl, h6⟩ := end_ok h
   exact ⟨⟨by show y.1.size ≤ 60; omega, by show (0 : Nat) ≤ 60; omega, rfl⟩, by show a < endOf s blkB y.2 + 1; omega, h6⟩
end Go.Proofs.YtmbhkkophkccbaaGreat.Pa
end
