import Derived.Recover
import Derived.Laws.Pointers
import Derived.Test.YtmbhkkophkccbaaGreatC18
section
namespace Go.Proofs.YtmbhkkophkccbaaGreat.Pa
open Go Go.RowKit Go.Proofs.YtmbhkkophkccbaaGreat.Seq WS FS Mem Rd Shapes Word FFam Work Fn OwnF
set_option linter.unusedVariables false
set_option linter.unusedSimpArgs false
theorem info_step : (Tryz.prog.info? 54).map (fun i => (i.zero, i.size, i.bytes)) = some (some (.agg #[.slice none 0 0, .bool false]), 2, 32) := by kernel_rfl
def stepS : ElS Stp := fun S w cs x => ∃ v, cs = [v, .bool x.child] ∧ RdE testS 3 S w v x.c
theorem stepS_keeps : stepS.Keeps := fun S S' w w' cs x ⟨v, h1, h2⟩ hk hs hS => ⟨v, h1, h2.keep testS_keeps hk hs hS⟩
def SmT (c : List Tst) : Prop := ∀ t ∈ c, t.name.size ≤ 60 ∧ t.value.size ≤ 60
theorem comp_ok {s : ByteArray} {beg : Nat} : ∀ (n : Nat) (c : List Tst) (b : Nat) {x : List Tst × Nat}, compLoop s beg n c b = .ok x → beg ≤ b → b ≤ s.size → SmT c → beg < x.2 ∧ x.2 ≤ s.size ∧ SmT x.1
 | 0, c, b, x, h, _, _, _ => by rw [compLoop] at h; cases h
 | n + 1, c, b, x, h, hb, hs, hc => by
  have hbz : ∀ y : UInt8, y ≠ 0 → nextB s b = y → b < s.size := fun y hy e => by
   by_cases hx : b < s.size
   ·exact hx
   ·rw [next_no hx] at e; exact absurd e.symm hy
  have happ : ∀ t : Tst, (t.name.size ≤ 60 ∧ t.value.size ≤ 60) → SmT (c ++ [t]) := fun t ht u hu => by
   rw [List.mem_append, List.mem_singleton] at hu
   rcases hu with hu | rfl
   ·exact hc u hu
   ·exact ht
  rw [compLoop] at h
  split at h
  ·rename_i e
   have hlt := hbz 46 (by decide) e
   cases hN : nameP s (b + 1) with
   | error e => rw [hN] at h; cases h
   | ok y =>
    rw [hN] at h
    have ho := name_ok hN (by omega)
    exact comp_ok n _ _ h (by omega) ho.2.2 (happ _ ⟨Nat.le_trans ho.1 (by decide), Nat.zero_le _⟩)
  ·split at h
   ·rename_i e
    have hlt := hbz 35 (by decide) e
    cases hN : nameP s (b + 1) with
    | error e => rw [hN] at h; cases h
    | ok y =>
     rw [hN] at h
     have ho := name_ok hN (by omega)
     exact comp_ok n _ _ h (by omega) ho.2.2 (happ _ ⟨Nat.le_trans ho.1 (by decide), Nat.zero_le _⟩)
   ·split at h
    ·rename_i e
     have hlt := hbz 91 (by decide) e
     cases hN : bracketsP s (b + 1) with
     | error e => rw [hN] at h; cases h
     | ok y =>
      rw [hN] at h
      have ho := brackets_ok hN (by omega)
      exact comp_ok n _ _ h (by omega) ho.2.2 (happ _ ⟨ho.1.1, ho.1.2.1⟩)
    ·split at h
     ·cases h
     ·injection h with h
      subst h
      exact ⟨by show beg < b; omega, hs, hc⟩
theorem compound_ok {s : ByteArray} {a : Nat} {x : List Tst × Nat} (h : compoundP s a = .ok x) (ha : a ≤ s.size) : a < x.2 ∧ x.2 ≤ s.size ∧ SmT x.1 := by
 have hnil : SmT [] := fun t ht => by cases ht
 unfold compoundP at h
 split at h
 ·rename_i ht
  have := (took_lt ht).1
  exact comp_ok _ _ _ h (by omega) (by omega) hnil
 ·split at h
  ·cases hN : nameP s a with
   | error e => rw [hN] at h; cases h
   | ok y =>
    rw [hN] at h
    have ho := name_ok hN ha
    exact comp_ok _ _ _ h (by omega) ho.2.2 (fun t ht => by rw [List.mem_singleton] at ht; subst ht; exact ⟨Nat.le_trans ho.1 (by decide), Nat.zero_le _⟩)
  ·exact comp_ok _ _ _ h (Nat.le_refl _) ha hnil
def rowLoop (s : ByteArray) : Nat → Sro → Bool → Nat → Except Nat (Sro × Nat)
 | 0, _, _, a => .error a
 | n + 1, l, child, a => match compoundP s a with
  | .error e => .error e
  | .ok x =>
   if endOf s blkB x.2 = s.size ∨ nextB s (endOf s blkB x.2) = 44 then .ok (l ++ [{ c := x.1, child := child }], endOf s blkB x.2)
   else if tookB s (endOf s blkB x.2) 62 = true then rowLoop s n (l ++ [{ c := x.1, child := child }]) true (endOf s blkB (endOf s blkB x.2 + 1))
   else if x.2 < endOf s blkB x.2 then rowLoop s n (l ++ [{ c := x.1, child := child }]) false (endOf s blkB x.2) else .error (endOf s blkB x.2)
def rowP (s : ByteArray) (a : Nat) : Except Nat (Sro × Nat) := rowLoop s (s.size + 1 - a) [] false (endOf s blkB a)
set_option maxRecDepth 100000 in
set_option maxHeartbeats 16000000 in
theorem row_calls (s : ByteArray) (br a : Nat) (w : World) (h : At s br a w) : Calls Tryz.prog 60 #[.pointer (some ⟨br, 0, none⟩)] w (PP s br w (rowP s a) (fun r v w' => RdE stepS 2 (fun b => w.heap.size ≤ b) w' v r)) := by
 have hle := h.le
 have hsm := h.small
 have hbr := at_lt h
 obtain ⟨i0, hi0, hz0, hz1, hz2⟩ := info_parts info_step
 obtain ⟨M, hM⟩ : ∃ M, M = rowP s a := ⟨_, rfl⟩
 rw [← hM]
 unfold rowP at hM
 have hbl := blanks_calls s br a w h
 have he := end_le (s := s) (p := blkB) (a := a) hle
 have Hbl := Lib.hid hbl
 clear hbl h
 obtain ⟨b0, hb0⟩ : ∃ b0, b0 = endOf s blkB a := ⟨_, rfl⟩
 rw [← hb0] at hM he Hbl
 have HM := Lib.hid hM
 clear hM hb0
 go_enter Tryz.func60, Tryz.ntmps60
 go_upto_region 3 with (go_at_call 130; (with_reducible refine (Hbl.out).mono ?_); rintro e w5 ⟨rfl, ha, ho⟩; have HA := Lib.hid ha; have HO := Lib.hid ho; clear ha ho)
 have HC := Lib.hid (OwnE.nil (E := stepS) (T := 54) (sz := 2) (base := w.heap.size) (br := br) (w := w5))
 go_loopg [2, 3] (s.size + 1 - a) (fun g u ch wr => ∃ (b : Nat) (l : Sro) (child : Bool), Hid (OwnE stepS 54 2 w.heap.size br wr u l) ∧ ch = .bool child ∧ Hid (At s br b wr) ∧ b ≤ s.size ∧ s.size < b + g ∧ l.length ≤ b ∧ Hid (M = rowLoop s g l child b) ∧ Hid (OffR br w wr))
 case atStart => exact ⟨b0, [], false, HC, rfl, HA, he.2, by omega, Nat.zero_le _, HM, HO⟩
 case round =>
  clear HC HA HM HO
  obtain ⟨b, l, child, hC, rfl, hA, hbs, hbg, hcl, hMl, hO⟩ := hrel
  obtain ⟨Ac, cc, rfl⟩ := hC.out.form
  obtain ⟨wo, rfl⟩ : ∃ wo : World, wo = wr := ⟨_, rfl⟩
  obtain ⟨g, rfl⟩ : ∃ g, gk = g + 1 := ⟨gk - 1, by omega⟩
  have hM := hMl.out
  rw [rowLoop] at hM
  have hcp := compound_calls s br b wo hA.out
  clear hMl
  cases hN : compoundP s b with
  | error e1 =>
   rw [hN] at hM hcp
   have HM := Lib.hid hM; have Hcp := Lib.hid hcp
   clear hM hcp
   go_wp2_with (go_at_call 131; (with_reducible refine (Hcp.out).mono ?_); rintro e w6 ⟨ho6, rfl⟩; have Ho6 := Lib.hid (hO.out.trans ho6); clear ho6)
   rw [HM.out]
   exact ⟨rfl, Ho6.out, rfl⟩
  | ok x =>
   obtain ⟨cs, b2⟩ := x
   rw [hN] at hM hcp
   have hok := compound_ok hN hbs
   have hb2 : b < b2 ∧ b2 ≤ s.size := ⟨hok.1, hok.2.1⟩
   try simp only at hM
   have HM := Lib.hid hM; have Hcp := Lib.hid hcp
   clear hM hcp hN hok
   go_upto_region 4 with (first | (go_at_call 131; (with_reducible refine (Hcp.out).mono ?_); rintro e w6 ⟨ho6, ⟨v6, rfl, hr6⟩, ha6⟩; obtain ⟨A6, c6, rfl, _, _, _⟩ := id hr6; have hc6 := own_off stepS_keeps hC.out ho6 hbr; obtain ⟨xs, hx1, hx2⟩ := hc6.out; have hown := hC.out.out.choose_spec.1; have HX1 := Lib.hid hx1; have HX2 := Lib.hid hx2; have Hr6 := Lib.hid hr6; have Ha6 := Lib.hid ha6; have Ho6 := Lib.hid (hO.out.trans ho6); have Hown := Lib.hid hown; clear ho6 ha6 hc6 hx1 hx2 hr6 hown) | (at_builtin; go_loud (refine wpList_append_own_at (w6.alloc (.cells #[.slice A6 cs.length c6, .bool child] 54)) rfl _ _ 46 rfl w.heap.size 54 i0 _ 2 32 Tryz.underlying46 hi0 hz0 hz1 hz2 rfl (by decide) (.slice Ac l.length cc) l.length xs rfl (own_keep HX1.out (fun g hg => Below.heap_alloc _ _ _ (HX1.out.lt g hg).2)) ⟨w6.heap.size, 0, none⟩ 1 1 [.slice A6 cs.length c6, .bool child] rfl rfl (World.news_of_block (cs := #[.slice A6 cs.length c6, .bool child]) (t := 54) (fr := (0, 0)) (heap_alloc_new w6 _)) (by simp [Value.oneCell']) (by simp only [maxLen]; omega) (by omega) (by simp; have := Ho6.out.size; omega) ?_; intro v8 w8 hown8 hgrow8 hnil8 hat8; have Hown8 := Lib.hid hown8; have Hgrow8 := Lib.hid hgrow8; have Hat8 := Lib.hid hat8; clear hown8 hgrow8 hnil8 hat8)))
   have hwo := hO.out.size
   have hC8 : OwnE stepS 54 2 w.heap.size br w8 v8 (l ++ [{ c := cs, child := child }]) := OwnE.more stepS_keeps (w := w6.alloc (.cells #[.slice A6 cs.length c6, .bool child] 54)) (own_keep HX1.out (fun g hg => Below.heap_alloc _ _ _ (HX1.out.lt g hg).2)) (fun i hi => stepS_keeps _ _ _ _ _ _ (HX2.out i hi) (fun b _ hb => Below.heap_alloc _ _ _ hb) (by simp) (fun _ x _ => x)) rfl
    ⟨_, rfl, Hr6.out.keep testS_keeps (fun b _ hb => Below.heap_alloc _ _ _ hb) (by simp) (fun b hb _ => ⟨fun e => by have h1 : b < wo.heap.size := (Hown.out.lt b e).2; have h2 : wo.heap.size ≤ b := hb; omega, by have h2 : wo.heap.size ≤ b := hb; omega⟩)⟩ Hown8.out Hgrow8.out Hat8.out
   have hA8 : At s br b2 w8 := at_grown (at_alloc Ha6.out _) Hgrow8.out (base_ne HX1.out hbr)
   have hO8 : OffR br w w8 := off_grown (Ho6.out.trans (off_alloc _ _)) Hgrow8.out (fun r hr => (HX1.out.lt r hr).1)
   have hbl8 := blanks_calls s br b2 w8 hA8
   have he8 := end_le (s := s) (p := blkB) (a := b2) hb2.2
   obtain ⟨b3, hb3⟩ : ∃ b3, b3 = endOf s blkB b2 := ⟨_, rfl⟩
   rw [← hb3] at HM hbl8 he8
   clear hb3
   obtain ⟨l8, hl8⟩ : ∃ l8 : Sro, l8 = l ++ [{ c := cs, child := child }] := ⟨_, rfl⟩
   have hl8l : l8.length = l.length + 1 := by rw [hl8]; simp
   rw [← hl8] at HM hC8
   clear hl8
   have HL8 := Lib.hid hl8l
   clear hl8l
   obtain ⟨A8, c8, rfl⟩ := hC8.form
   have Hbl8 := Lib.hid hbl8; have HC8 := Lib.hid hC8; have HO8 := Lib.hid hO8
   clear hbl8 hC8 hA8 hO8 HX1 HX2 Hr6 Ha6 Ho6 Hown Hown8 Hgrow8 Hat8 hC hA hO hwo Hcp
   go_upto_region 5 with (go_at_call 130; (with_reducible refine (Hbl8.out).mono ?_); rintro e w9 ⟨rfl, ha9, ho9⟩; have hc9 := own_off stepS_keeps HC8.out ho9 hbr; have Ha9 := Lib.hid ha9; have HC9 := Lib.hid hc9; have HO9 := Lib.hid (HO8.out.trans ho9); clear ha9 ho9 hc9)
   obtain ⟨c0, c1, cf⟩ := Ha9.out.cells
   by_cases hend : b3 = s.size
   ·have hM := HM.out
    rw [if_pos (.inl hend)] at hM
    have hq : ((b3 : Int) == (s.size : Int)) = true := by rw [beq_iff_eq, hend]
    have HM2 := Lib.hid hM
    clear hM hend
    go_region
    all_goals go_wp2_with fail
    all_goals go_ret
    all_goals rw [HM2.out]
    all_goals first | exact ⟨HO9.out.trans (Off.drew _ _), ⟨_, rfl, (own_off stepS_keeps HC9.out (Off.drew _ _) hbr).rd stepS_keeps hbr⟩, Ha9.out.drew⟩ | exact ⟨HO9.out, ⟨_, rfl, HC9.out.rd stepS_keeps hbr⟩, Ha9.out⟩
   ·have hq : ((b3 : Int) == (s.size : Int)) = false := by rw [beq_eq_false_iff_ne]; omega
    have hnx := fun W (hx : At s br b3 W) => next_calls s br b3 W hx
    obtain ⟨x, hx⟩ : ∃ x, x = nextB s b3 := ⟨_, rfl⟩
    rw [← hx] at HM hnx
    have HE44 := Lib.hid (byte_eq x 44 44 rfl)
    have Hnx := Lib.hid hnx
    clear hnx hx
    go_region_held3 (fun w' => w'.cell? ⟨br, 0, none⟩ = some (.string s) ∧ w'.cell? ⟨br, 1, none⟩ = some (.int .i64 (b3 : Int)))
     (first | exact ⟨c0, c1⟩ | exact y10 | go_keep)
     (first | (go_at_call 132; first | ((with_reducible refine (Hnx.out _ Ha9.out.drew).mono ?_); rintro e w10 ⟨rfl, ha, ho⟩; have hd := (Off.drew (fun b => b = br) w9).trans ho; have hc10 := own_off stepS_keeps HC9.out hd hbr; have y10 := And.intro ha.cells.1 ha.cells.2.1; have Ha10 := Lib.hid ha; have HC10 := Lib.hid hc10; have HO10 := Lib.hid (HO9.out.trans hd); clear ha ho hd hc10) | ((with_reducible refine (Hnx.out _ Ha9.out).mono ?_); rintro e w10 ⟨rfl, ha, ho⟩; have hc10 := own_off stepS_keeps HC9.out ho hbr; have y10 := And.intro ha.cells.1 ha.cells.2.1; have Ha10 := Lib.hid ha; have HC10 := Lib.hid hc10; have HO10 := Lib.hid (HO9.out.trans ho); clear ha ho hc10)))
    clear Ha9 HC9 HO9 c0 c1 cf
    by_cases h44 : x = 44
    ·have hM := HM.out
     rw [if_pos (.inr h44)] at hM
     have e44 := HE44.out
     rw [decide_eq_true h44] at e44
     clear HE44
     have HM2 := Lib.hid hM
     clear hM h44
     go_wp2_with fail
     go_ret
     rw [HM2.out]
     exact ⟨HO10.out, ⟨_, rfl, HC10.out.rd stepS_keeps hbr⟩, Ha10.out⟩
    ·have hM := HM.out
     rw [if_neg (by rintro (h | h); exact hend h; exact h44 h)] at hM
     have e44 := HE44.out
     rw [decide_eq_false h44] at e44
     clear HE44
     have htk := took_lit s br b3 62 62 rfl w10 Ha10.out
     cases hT : tookB s b3 62 with
     | true =>
      rw [hT, if_pos rfl] at htk hM
      have hlt := (took_lt hT).1
      have he3 := end_le (s := s) (p := blkB) (a := b3 + 1) (by omega)
      have Htk := Lib.hid htk; have HM2 := Lib.hid hM
      clear htk hM hT h44 HM
      go_wp2_with (first | (go_at_call 61; (with_reducible refine (Htk.out).mono ?_); rintro e w11 ⟨rfl, ha, ho⟩; have hc11 := own_off stepS_keeps HC10.out ho hbr; have hb11 := blanks_calls s br _ w11 ha; have Hb11 := Lib.hid hb11; have HC11 := Lib.hid hc11; have HO11 := Lib.hid (HO10.out.trans ho); clear ha ho hc11 hb11) | (go_at_call 130; (with_reducible refine (Hb11.out).mono ?_); rintro e w12 ⟨rfl, ha, ho⟩; have hc12 := own_off stepS_keeps HC11.out ho hbr; have Ha12 := Lib.hid ha; have HC12 := Lib.hid hc12; have HO12 := Lib.hid (HO11.out.trans ho); clear ha ho hc12))
      go_roundg g
      case measure => omega
      case rel => exact ⟨endOf s blkB (b3 + 1), l8, true, HC12, rfl, Ha12, he3.2, by omega, by have := HL8.out; omega, HM2, HO12⟩
     | false =>
      rw [hT, if_neg (by decide)] at htk hM
      have Htk := Lib.hid htk
      clear htk hT h44 HM
      by_cases hap : b2 < b3
      ·rw [if_pos hap] at hM
       have HM2 := Lib.hid hM
       clear hM
       go_wp2_with (first | (go_at_call 61; (with_reducible refine (Htk.out).mono ?_); rintro e w11 ⟨rfl, ha, ho⟩; have hc11 := own_off stepS_keeps HC10.out ho hbr; have Ha11 := Lib.hid ha; have HC11 := Lib.hid hc11; have HO11 := Lib.hid (HO10.out.trans ho); clear ha ho hc11))
       go_roundg g
       case measure => omega
       case rel => exact ⟨b3, l8, false, HC11, rfl, Ha11, he8.2, by omega, by have := HL8.out; omega, HM2, HO11⟩
      ·rw [if_neg hap] at hM
       have HM2 := Lib.hid hM
       clear hM
       go_wp2_with (first | (go_at_call 61; (with_reducible refine (Htk.out).mono ?_); rintro e w11 ⟨rfl, ha, ho⟩; have hg11 := give_calls s br b3 w11 ha; have Hg11 := Lib.hid hg11; have HO11 := Lib.hid (HO10.out.trans ho); clear ha ho hg11) | (go_at_call 133; (with_reducible refine (Hg11.out).mono ?_); rintro e w12 ⟨rfl, rfl⟩))
       rw [HM2.out]
       exact ⟨rfl, HO11.out, rfl⟩
end Go.Proofs.YtmbhkkophkccbaaGreat.Pa
end
section
namespace Go.Proofs.YtmbhkkophkccbaaGreat.Pa
open Go Go.RowKit Go.Proofs.YtmbhkkophkccbaaGreat.Seq WS FS Mem Rd Shapes Word FFam Work Fn OwnF
set_option linter.unusedVariables false
set_option linter.unusedSimpArgs false
set_option maxHeartbeats 4000000 in
set_option maxRecDepth 100000 in
theorem catch_idle (p q r : Addr) (w : World) : CallsD Tryz.prog 59 #[.pointer (some p), .pointer (some q), .pointer (some r)] .returning w fun e u' w' => e = .returned (.tuple #[]) ∧ u' = .returning ∧ w' = w := by
 have hb : ∀ w : World, (binOp BinOp.eql 20 .nilIface .nilIface).run Tryz.prog w = .ok (.bool true) w := fun _ => by kernel_rfl
 refine callsD_of_wpS Tryz.func59 rfl fun c₀ cs hu => ?_
 apply wpS_seq
 apply wpS_region
 simp [wpOpsS, go_sem, recoverD, hu, Tryz.ntmps59, Exit.thenS]
 apply wpS_of_wp
 go_wp2_with fail
 cases c₀
 simp_all [bodyPostS, results, Tryz.results59]
set_option maxHeartbeats 4000000 in
set_option maxRecDepth 100000 in
theorem catch_wrong (p q r : Addr) (a : Int) (vp vq vr : Value) (older : List PanicEntry) (w : World) (hp : w.cell? p = some vp) (hq : w.cell? q = some vq) (hr : w.cell? r = some vr)
  (fp : w.frozen? p = false) (fq : w.frozen? q = false) (fr : w.frozen? r = false) (pq : p ≠ q) (pr : p ≠ r) (qr : q ≠ r) :
  CallsD Tryz.prog 59 #[.pointer (some p), .pointer (some q), .pointer (some r)] (.panicking ({ v := .iface 129 (.int .i64 a), recovered := false } :: older)) w fun e u' w' => e = .returned (.tuple #[]) ∧ u' = .panicking ({ v := .iface 129 (.int .i64 a), recovered := true } :: older) ∧ w' = ((w.setCell p (.slice none 0 0)).setCell q (.int .i64 a)).setCell r (.int .i64 90) := by
 have hb : ∀ w : World, (binOp BinOp.eql 20 (.iface 129 (.int .i64 a)) .nilIface).run Tryz.prog w = .ok (.bool false) w := fun _ => by kernel_rfl
 have ht : ∀ w : World, (Instr.typeAssert (.iface 129 (.int .i64 a)) 20 129 true).run Tryz.prog w = .ok (.tuple #[.int .i64 a, .bool true]) w := fun _ => by kernel_rfl
 refine callsD_of_wpS Tryz.func59 rfl fun c₀ cs hu => ?_
 apply wpS_seq
 apply wpS_region
 simp [wpOpsS, go_sem, recoverD, hu, Tryz.ntmps59, Exit.thenS]
 apply wpS_of_wp
 go_wp2_with fail
 refine ⟨rfl, _, rfl, _, ?_, rfl, rfl, rfl⟩
 simp [results, Tryz.results59]
end Go.Proofs.YtmbhkkophkccbaaGreat.Pa
end
