import Derived.Test.YtmbhkkophkccbaaGreatC17
section
namespace Go.Proofs.YtmbhkkophkccbaaGreat.Pa
open Go Go.RowKit Go.Proofs.YtmbhkkophkccbaaGreat.Seq WS FS Mem Rd Shapes Word FFam Work Fn OwnF
set_option linter.unusedVariables false
set_option linter.unusedSimpArgs false
theorem info_test : (Tryz.prog.info? 106).map (fun i => (i.zero, i.size, i.bytes)) = some (some (.agg #[.int .i64 0, .string ⟨#[]⟩, .string ⟨#[]⟩]), 3, 40) := by kernel_rfl
theorem byte_eq (x : UInt8) (n : UInt8) (m : Int) (h : (n.toNat : Int) = m) : ((x.toNat : Int) == m) = decide (x = n) := by
 subst h
 by_cases e : x = n
 ·subst e; simp
 ·have : ¬ x.toNat = n.toNat := fun h => e (UInt8.toNat_inj.1 h)
  rw [decide_eq_false e, beq_eq_false_iff_ne]; omega
theorem at_grown {s : ByteArray} {br a : Nat} {w w' : World} {row : Option Nat} (h : At s br a w) (hg : w.grownBy w' row) (hn : row ≠ some br) : At s br a w' := ⟨(hg.block br (lt_heap h.row) (fun e => hn e.symm)).trans h.row, h.le, h.small⟩
theorem off_grown {br : Nat} {w0 w w' : World} {row : Option Nat} (h : OffR br w0 w) (hg : w.grownBy w' row) (hr : ∀ r, row = some r → w0.heap.size ≤ r) : OffR br w0 w' :=
 Off.trans' h (Off.grown (Y := fun b => w0.heap.size ≤ b) hg hr) (fun b hb => .inr hb)
theorem own_off {α : Type} {E : ElS α} {T : TypeId} {sz base br : Nat} {w w' : World} {v : Value} {l : List α} (hE : E.Keeps) (h : OwnE E T sz base br w v l) (ho : OffR br w w') (hbr : br < base) : OwnE E T sz base br w' v l := h.keep hE (fun b hb hn => ho.block b hb hn) ho.size hbr
theorem base_ne {α : Type} {T : TypeId} {sz base br : Nat} {w : World} {A : Option Addr} {n c : Nat} {l : List α} {xs : List Value} (h1 : w.ownsRow base T sz (.slice A n c) l.length xs) (hbr : br < base) : (Value.slice A n c).ownBlock ≠ some br := fun e => by have := (h1.lt br e).1; omega
set_option maxRecDepth 100000 in
set_option maxHeartbeats 16000000 in
theorem compound_calls (s : ByteArray) (br a : Nat) (w : World) (h : At s br a w) : Calls Tryz.prog 131 #[.pointer (some ⟨br, 0, none⟩)] w (PP s br w (compoundP s a) (fun c v w' => RdE testS 3 (fun b => w.heap.size ≤ b) w' v c)) := by
 have hle := h.le
 have hsm := h.small
 have hbr := at_lt h
 obtain ⟨i0, hi0, hz0, hz1, hz2⟩ := info_parts info_test
 obtain ⟨M, hM⟩ : ∃ M, M = compoundP s a := ⟨_, rfl⟩
 rw [← hM]
 unfold compoundP at hM
 obtain ⟨c0, c1, cf⟩ := h.cells
 have htk := took_lit s br a 42 42 rfl w h
 clear h
 cases hT : tookB s a 42 with
 | true =>
  rw [hT, if_pos rfl] at htk hM
  have has := (took_lt hT).1
  have Htk := Lib.hid htk; have HM := Lib.hid hM
  clear htk hM hT
  go_enter Tryz.func131, Tryz.ntmps131
  go_upto_region 4 with (go_at_call 61; (with_reducible refine (Htk.out).mono ?_); rintro e w5 ⟨rfl, ha, ho⟩; have HA := Lib.hid ha; have HO := Lib.hid ho; clear ha ho)
  obtain ⟨b0, hb0⟩ : ∃ b0, b0 = a + 1 := ⟨_, rfl⟩
  have hb0g : s.size < b0 + (s.size + 1 - a) := by omega
  have HC := Lib.hid (OwnE.nil (E := testS) (T := 106) (sz := 3) (base := w.heap.size) (br := br) (w := w5))
  rw [← hb0] at HA HM
  have hb0l := HA.out.le
  clear hb0 has c0 c1 cf
  go_loopg [2] (s.size + 1 - a) (fun g u wr => ∃ (b : Nat) (c : List Tst), Hid (OwnE testS 106 3 w.heap.size br wr u c) ∧ Hid (At s br b wr) ∧ a ≤ b ∧ b ≤ s.size ∧ s.size < b + g ∧ c.length ≤ b ∧ Hid (M = compLoop s a g c b) ∧ Hid (OffR br w wr))
  case atStart => exact ⟨b0, [], HC, HA, by omega, hb0l, hb0g, by simp only [List.length_nil, List.length_singleton]; omega, HM, HO⟩
  case round =>
   clear HC HA HM HO hb0l hb0g
   obtain ⟨b, c, hC, hA, hab, hbs, hbg, hcl, hMl, hO⟩ := hrel
   obtain ⟨Ac, cc, rfl⟩ := hC.out.form
   obtain ⟨wo, rfl⟩ : ∃ wo : World, wo = wr := ⟨_, rfl⟩
   obtain ⟨g, rfl⟩ : ∃ g, gk = g + 1 := ⟨gk - 1, by omega⟩
   have hnx := next_calls s br b wo hA.out
   have hM := hMl.out
   rw [compLoop] at hM
   clear hMl
   obtain ⟨x, hx⟩ : ∃ x, x = nextB s b := ⟨_, rfl⟩
   have hxb : x ≠ 0 → b < s.size := fun h => by
    by_cases hb : b < s.size
    ·exact hb
    ·rw [next_no hb] at hx; exact absurd hx h
   rw [← hx] at hnx hM
   have e46 := byte_eq x 46 46 rfl
   have e35 := byte_eq x 35 35 rfl
   have e91 := byte_eq x 91 91 rfl
   have Hnx := Lib.hid hnx
   clear hnx hx
   by_cases h46 : x = 46
   ·have hbz := hxb (by rw [h46]; decide)
    rw [decide_eq_true h46] at e46
    rw [if_pos h46] at hM
    clear e35 e91 h46 hxb
    have hbw : IntKind.i64.wrap ((b : Int) + 1) = (b : Int) + 1 := by rw [IntKind.wrap_i64]; omega
    cases hN : nameP s (b + 1) with
    | error e1 =>
     rw [hN] at hM
     have HM := Lib.hid hM
     clear hM
     go_wp2_with (first | (go_at_call 132; (with_reducible refine (Hnx.out).mono ?_); rintro e w5 ⟨rfl, ha, ho⟩; obtain ⟨c0, c1, cf⟩ := ha.cells; have hs5 : At s br (b + 1) (w5.setCell ⟨br, 1, none⟩ (.int .i64 ((b : Int) + 1))) := ha.set (b := b + 1) (by omega); have ho5 : OffR br w (w5.setCell ⟨br, 1, none⟩ (.int .i64 ((b : Int) + 1))) := (hO.out.trans ho).trans (Off.setCell (Y := fun b => b = br) w5 ⟨br, 1, none⟩ _ rfl); have hc5 := own_off testS_keeps hC.out (ho.trans (Off.setCell (Y := fun b => b = br) w5 ⟨br, 1, none⟩ (.int .i64 ((b : Int) + 1)) rfl)) hbr; have hcc5 := own_off testS_keeps hC.out ho hbr; have HA5 := Lib.hid ha; have HO5 := Lib.hid (hO.out.trans ho); have Hs5 := Lib.hid hs5; have Hos5 := Lib.hid ho5; have Hc5 := Lib.hid hc5; have Hcc5 := Lib.hid hcc5; clear ha ho hs5 ho5 hc5 hcc5) | (go_at_call 197; (with_reducible refine (by have := name_calls s br (b + 1) _ Hs5.out; rw [hN] at this; exact this : Calls _ _ _ _ (PP s br (w5.setCell ⟨br, 1, none⟩ (.int .i64 ((b : Int) + 1))) (.error e1) (fun x v _ => v = .string x))).mono ?_); rintro e w7 ⟨ho7, rfl⟩; have Ho7 := Lib.hid (Hos5.out.trans ho7); clear ho7))
     rw [HM.out]
     exact ⟨rfl, Ho7.out, rfl⟩
    | ok x =>
     obtain ⟨x1, b2⟩ := x
     rw [hN] at hM
     have hbo := name_ok hN (by omega)
     have hb2 : b + 1 < b2 ∧ b2 ≤ s.size := hbo.2
     have HM := Lib.hid hM; have Hb2 := Lib.hid hb2
     clear hM
     go_wp2_with (first | (go_at_call 132; (with_reducible refine (Hnx.out).mono ?_); rintro e w5 ⟨rfl, ha, ho⟩; obtain ⟨c0, c1, cf⟩ := ha.cells; have hs5 : At s br (b + 1) (w5.setCell ⟨br, 1, none⟩ (.int .i64 ((b : Int) + 1))) := ha.set (b := b + 1) (by omega); have ho5 : OffR br w (w5.setCell ⟨br, 1, none⟩ (.int .i64 ((b : Int) + 1))) := (hO.out.trans ho).trans (Off.setCell (Y := fun b => b = br) w5 ⟨br, 1, none⟩ _ rfl); have hc5 := own_off testS_keeps hC.out (ho.trans (Off.setCell (Y := fun b => b = br) w5 ⟨br, 1, none⟩ (.int .i64 ((b : Int) + 1)) rfl)) hbr; have hcc5 := own_off testS_keeps hC.out ho hbr; have HA5 := Lib.hid ha; have HO5 := Lib.hid (hO.out.trans ho); have Hs5 := Lib.hid hs5; have Hos5 := Lib.hid ho5; have Hc5 := Lib.hid hc5; have Hcc5 := Lib.hid hcc5; clear ha ho hs5 ho5 hc5 hcc5) | (go_at_call 197; (with_reducible refine (by have := name_calls s br (b + 1) _ Hs5.out; rw [hN] at this; exact this : Calls _ _ _ _ (PP s br (w5.setCell ⟨br, 1, none⟩ (.int .i64 ((b : Int) + 1))) (.ok (x1, b2)) (fun x v _ => v = .string x))).mono ?_); rintro e w7 ⟨ho7, ⟨v7, rfl, rfl⟩, ha7⟩; have hc7 := own_off testS_keeps Hc5.out ho7 hbr; obtain ⟨xs, hx1, hx2⟩ := hc7.out; have HX1 := Lib.hid hx1; have HX2 := Lib.hid hx2; have Ha7 := Lib.hid ha7; have Ho7 := Lib.hid (Hos5.out.trans ho7); clear ho7 ha7 hc7 hx1 hx2) | (at_builtin; go_loud (refine wpList_append_own_at (w7.alloc (.cells #[.int .i64 3, .string x1, .string ⟨#[]⟩] 106)) rfl _ _ 52 rfl w.heap.size 106 i0 _ 3 40 Tryz.underlying52 hi0 hz0 hz1 hz2 rfl (by decide) (.slice Ac c.length cc) c.length xs rfl (own_keep HX1.out (fun g hg => Below.heap_alloc _ _ _ (HX1.out.lt g hg).2)) ⟨w7.heap.size, 0, none⟩ 1 1 [.int .i64 3, .string x1, .string ⟨#[]⟩] rfl rfl (World.news_of_block (cs := #[.int .i64 3, .string x1, .string ⟨#[]⟩]) (t := 106) (fr := (0, 0)) (heap_alloc_new w7 _)) (by simp [Value.oneCell']) (by simp only [maxLen]; omega) (by omega) (by simp; have := Ho7.out.size; omega) ?_; intro v8 w8 hown8 hgrow8 hnil8 hat8; have Hown8 := Lib.hid hown8; have Hgrow8 := Lib.hid hgrow8; have Hat8 := Lib.hid hat8; clear hown8 hgrow8 hnil8 hat8)))
     try simp only
     have hC8 : OwnE testS 106 3 w.heap.size br w8 v8 (c ++ [{ kind := 3, name := x1, value := ⟨#[]⟩ }]) := OwnE.more testS_keeps (w := w7.alloc (.cells #[.int .i64 3, .string x1, .string ⟨#[]⟩] 106)) (own_keep HX1.out (fun g hg => Below.heap_alloc _ _ _ (HX1.out.lt g hg).2)) (fun i hi => testS_keeps _ _ _ _ _ _ (HX2.out i hi) (fun b _ hb => Below.heap_alloc _ _ _ hb) (by simp) (fun _ x _ => x)) rfl ⟨rfl, ⟨Nat.le_trans hbo.1 (by decide), Nat.zero_le _, rfl⟩⟩ Hown8.out Hgrow8.out Hat8.out
     have hA8 : At s br b2 w8 := at_grown (at_alloc Ha7.out _) Hgrow8.out (base_ne HX1.out hbr)
     have hO8 : OffR br w w8 := off_grown (Ho7.out.trans (off_alloc _ _)) Hgrow8.out (fun r hr => (HX1.out.lt r hr).1)
     have HM8 : Hid (M = compLoop s a g (c ++ [{ kind := 3, name := x1 }]) b2) := HM
     have Hc8 := Lib.hid hC8; have Ha8 := Lib.hid hA8; have Ho8 := Lib.hid hO8
     clear hC8 hA8 hO8
     go_roundg g
     case measure => omega
     case rel => exact ⟨b2, c ++ [{ kind := 3, name := x1 }], Hc8, Ha8, by omega, by omega, by omega, by rw [List.length_append, List.length_singleton]; omega, HM8, Ho8⟩
   rw [decide_eq_false h46] at e46
   rw [if_neg h46] at hM
   by_cases h35 : x = 35
   ·have hbz := hxb (by rw [h35]; decide)
    rw [decide_eq_true h35] at e35
    rw [if_pos h35] at hM
    clear e91 h35 h46 hxb
    have hbw : IntKind.i64.wrap ((b : Int) + 1) = (b : Int) + 1 := by rw [IntKind.wrap_i64]; omega
    cases hN : nameP s (b + 1) with
    | error e1 =>
     rw [hN] at hM
     have HM := Lib.hid hM
     clear hM
     go_wp2_with (first | (go_at_call 132; (with_reducible refine (Hnx.out).mono ?_); rintro e w5 ⟨rfl, ha, ho⟩; obtain ⟨c0, c1, cf⟩ := ha.cells; have hs5 : At s br (b + 1) (w5.setCell ⟨br, 1, none⟩ (.int .i64 ((b : Int) + 1))) := ha.set (b := b + 1) (by omega); have ho5 : OffR br w (w5.setCell ⟨br, 1, none⟩ (.int .i64 ((b : Int) + 1))) := (hO.out.trans ho).trans (Off.setCell (Y := fun b => b = br) w5 ⟨br, 1, none⟩ _ rfl); have hc5 := own_off testS_keeps hC.out (ho.trans (Off.setCell (Y := fun b => b = br) w5 ⟨br, 1, none⟩ (.int .i64 ((b : Int) + 1)) rfl)) hbr; have hcc5 := own_off testS_keeps hC.out ho hbr; have HA5 := Lib.hid ha; have HO5 := Lib.hid (hO.out.trans ho); have Hs5 := Lib.hid hs5; have Hos5 := Lib.hid ho5; have Hc5 := Lib.hid hc5; have Hcc5 := Lib.hid hcc5; clear ha ho hs5 ho5 hc5 hcc5) | (go_at_call 197; (with_reducible refine (by have := name_calls s br (b + 1) _ Hs5.out; rw [hN] at this; exact this : Calls _ _ _ _ (PP s br (w5.setCell ⟨br, 1, none⟩ (.int .i64 ((b : Int) + 1))) (.error e1) (fun x v _ => v = .string x))).mono ?_); rintro e w7 ⟨ho7, rfl⟩; have Ho7 := Lib.hid (Hos5.out.trans ho7); clear ho7))
     rw [HM.out]
     exact ⟨rfl, Ho7.out, rfl⟩
    | ok x =>
     obtain ⟨x1, b2⟩ := x
     rw [hN] at hM
     have hbo := name_ok hN (by omega)
     have hb2 : b + 1 < b2 ∧ b2 ≤ s.size := hbo.2
     have HM := Lib.hid hM; have Hb2 := Lib.hid hb2
     clear hM
     go_wp2_with (first | (go_at_call 132; (with_reducible refine (Hnx.out).mono ?_); rintro e w5 ⟨rfl, ha, ho⟩; obtain ⟨c0, c1, cf⟩ := ha.cells; have hs5 : At s br (b + 1) (w5.setCell ⟨br, 1, none⟩ (.int .i64 ((b : Int) + 1))) := ha.set (b := b + 1) (by omega); have ho5 : OffR br w (w5.setCell ⟨br, 1, none⟩ (.int .i64 ((b : Int) + 1))) := (hO.out.trans ho).trans (Off.setCell (Y := fun b => b = br) w5 ⟨br, 1, none⟩ _ rfl); have hc5 := own_off testS_keeps hC.out (ho.trans (Off.setCell (Y := fun b => b = br) w5 ⟨br, 1, none⟩ (.int .i64 ((b : Int) + 1)) rfl)) hbr; have hcc5 := own_off testS_keeps hC.out ho hbr; have HA5 := Lib.hid ha; have HO5 := Lib.hid (hO.out.trans ho); have Hs5 := Lib.hid hs5; have Hos5 := Lib.hid ho5; have Hc5 := Lib.hid hc5; have Hcc5 := Lib.hid hcc5; clear ha ho hs5 ho5 hc5 hcc5) | (go_at_call 197; (with_reducible refine (by have := name_calls s br (b + 1) _ Hs5.out; rw [hN] at this; exact this : Calls _ _ _ _ (PP s br (w5.setCell ⟨br, 1, none⟩ (.int .i64 ((b : Int) + 1))) (.ok (x1, b2)) (fun x v _ => v = .string x))).mono ?_); rintro e w7 ⟨ho7, ⟨v7, rfl, rfl⟩, ha7⟩; have hc7 := own_off testS_keeps Hc5.out ho7 hbr; obtain ⟨xs, hx1, hx2⟩ := hc7.out; have HX1 := Lib.hid hx1; have HX2 := Lib.hid hx2; have Ha7 := Lib.hid ha7; have Ho7 := Lib.hid (Hos5.out.trans ho7); clear ho7 ha7 hc7 hx1 hx2) | (at_builtin; go_loud (refine wpList_append_own_at (w7.alloc (.cells #[.int .i64 2, .string x1, .string ⟨#[]⟩] 106)) rfl _ _ 52 rfl w.heap.size 106 i0 _ 3 40 Tryz.underlying52 hi0 hz0 hz1 hz2 rfl (by decide) (.slice Ac c.length cc) c.length xs rfl (own_keep HX1.out (fun g hg => Below.heap_alloc _ _ _ (HX1.out.lt g hg).2)) ⟨w7.heap.size, 0, none⟩ 1 1 [.int .i64 2, .string x1, .string ⟨#[]⟩] rfl rfl (World.news_of_block (cs := #[.int .i64 2, .string x1, .string ⟨#[]⟩]) (t := 106) (fr := (0, 0)) (heap_alloc_new w7 _)) (by simp [Value.oneCell']) (by simp only [maxLen]; omega) (by omega) (by simp; have := Ho7.out.size; omega) ?_; intro v8 w8 hown8 hgrow8 hnil8 hat8; have Hown8 := Lib.hid hown8; have Hgrow8 := Lib.hid hgrow8; have Hat8 := Lib.hid hat8; clear hown8 hgrow8 hnil8 hat8)))
     try simp only
     have hC8 : OwnE testS 106 3 w.heap.size br w8 v8 (c ++ [{ kind := 2, name := x1, value := ⟨#[]⟩ }]) := OwnE.more testS_keeps (w := w7.alloc (.cells #[.int .i64 2, .string x1, .string ⟨#[]⟩] 106)) (own_keep HX1.out (fun g hg => Below.heap_alloc _ _ _ (HX1.out.lt g hg).2)) (fun i hi => testS_keeps _ _ _ _ _ _ (HX2.out i hi) (fun b _ hb => Below.heap_alloc _ _ _ hb) (by simp) (fun _ x _ => x)) rfl ⟨rfl, ⟨Nat.le_trans hbo.1 (by decide), Nat.zero_le _, rfl⟩⟩ Hown8.out Hgrow8.out Hat8.out
     have hA8 : At s br b2 w8 := at_grown (at_alloc Ha7.out _) Hgrow8.out (base_ne HX1.out hbr)
     have hO8 : OffR br w w8 := off_grown (Ho7.out.trans (off_alloc _ _)) Hgrow8.out (fun r hr => (HX1.out.lt r hr).1)
     have HM8 : Hid (M = compLoop s a g (c ++ [{ kind := 2, name := x1 }]) b2) := HM
     have Hc8 := Lib.hid hC8; have Ha8 := Lib.hid hA8; have Ho8 := Lib.hid hO8
     clear hC8 hA8 hO8
     go_roundg g
     case measure => omega
     case rel => exact ⟨b2, c ++ [{ kind := 2, name := x1 }], Hc8, Ha8, by omega, by omega, by omega, by rw [List.length_append, List.length_singleton]; omega, HM8, Ho8⟩
   rw [decide_eq_false h35] at e35
   rw [if_neg h35] at hM
   by_cases h91 : x = 91
   ·have hbz := hxb (by rw [h91]; decide)
    rw [decide_eq_true h91] at e91
    rw [if_pos h91] at hM
    clear h91 h35 h46 hxb
    have hbw : IntKind.i64.wrap ((b : Int) + 1) = (b : Int) + 1 := by rw [IntKind.wrap_i64]; omega
    cases hN : bracketsP s (b + 1) with
    | error e1 =>
     rw [hN] at hM
     have HM := Lib.hid hM
     clear hM
     go_wp2_with (first | (go_at_call 132; (with_reducible refine (Hnx.out).mono ?_); rintro e w5 ⟨rfl, ha, ho⟩; obtain ⟨c0, c1, cf⟩ := ha.cells; have hs5 : At s br (b + 1) (w5.setCell ⟨br, 1, none⟩ (.int .i64 ((b : Int) + 1))) := ha.set (b := b + 1) (by omega); have ho5 : OffR br w (w5.setCell ⟨br, 1, none⟩ (.int .i64 ((b : Int) + 1))) := (hO.out.trans ho).trans (Off.setCell (Y := fun b => b = br) w5 ⟨br, 1, none⟩ _ rfl); have hc5 := own_off testS_keeps hC.out (ho.trans (Off.setCell (Y := fun b => b = br) w5 ⟨br, 1, none⟩ (.int .i64 ((b : Int) + 1)) rfl)) hbr; have hcc5 := own_off testS_keeps hC.out ho hbr; have HA5 := Lib.hid ha; have HO5 := Lib.hid (hO.out.trans ho); have Hs5 := Lib.hid hs5; have Hos5 := Lib.hid ho5; have Hc5 := Lib.hid hc5; have Hcc5 := Lib.hid hcc5; clear ha ho hs5 ho5 hc5 hcc5) | (go_at_call 198; (with_reducible refine (by have := brackets_calls s br (b + 1) _ Hs5.out; rw [hN] at this; exact this : Calls _ _ _ _ (PP s br (w5.setCell ⟨br, 1, none⟩ (.int .i64 ((b : Int) + 1))) (.error e1) (fun x v _ => v = tsV x))).mono ?_); rintro e w7 ⟨ho7, rfl⟩; have Ho7 := Lib.hid (Hos5.out.trans ho7); clear ho7))
     rw [HM.out]
     exact ⟨rfl, Ho7.out, rfl⟩
    | ok x =>
     obtain ⟨x1, b2⟩ := x
     rw [hN] at hM
     have hbo := brackets_ok hN (by omega)
     have hb2 : b + 1 < b2 ∧ b2 ≤ s.size := hbo.2
     have HM := Lib.hid hM; have Hb2 := Lib.hid hb2
     clear hM
     go_wp2_with (first | (go_at_call 132; (with_reducible refine (Hnx.out).mono ?_); rintro e w5 ⟨rfl, ha, ho⟩; obtain ⟨c0, c1, cf⟩ := ha.cells; have hs5 : At s br (b + 1) (w5.setCell ⟨br, 1, none⟩ (.int .i64 ((b : Int) + 1))) := ha.set (b := b + 1) (by omega); have ho5 : OffR br w (w5.setCell ⟨br, 1, none⟩ (.int .i64 ((b : Int) + 1))) := (hO.out.trans ho).trans (Off.setCell (Y := fun b => b = br) w5 ⟨br, 1, none⟩ _ rfl); have hc5 := own_off testS_keeps hC.out (ho.trans (Off.setCell (Y := fun b => b = br) w5 ⟨br, 1, none⟩ (.int .i64 ((b : Int) + 1)) rfl)) hbr; have hcc5 := own_off testS_keeps hC.out ho hbr; have HA5 := Lib.hid ha; have HO5 := Lib.hid (hO.out.trans ho); have Hs5 := Lib.hid hs5; have Hos5 := Lib.hid ho5; have Hc5 := Lib.hid hc5; have Hcc5 := Lib.hid hcc5; clear ha ho hs5 ho5 hc5 hcc5) | (go_at_call 198; (with_reducible refine (by have := brackets_calls s br (b + 1) _ Hs5.out; rw [hN] at this; exact this : Calls _ _ _ _ (PP s br (w5.setCell ⟨br, 1, none⟩ (.int .i64 ((b : Int) + 1))) (.ok (x1, b2)) (fun x v _ => v = tsV x))).mono ?_); rintro e w7 ⟨ho7, ⟨v7, rfl, rfl⟩, ha7⟩; have hc7 := own_off testS_keeps Hc5.out ho7 hbr; obtain ⟨xs, hx1, hx2⟩ := hc7.out; have HX1 := Lib.hid hx1; have HX2 := Lib.hid hx2; have Ha7 := Lib.hid ha7; have Ho7 := Lib.hid (Hos5.out.trans ho7); clear ho7 ha7 hc7 hx1 hx2) | (at_builtin; go_loud (refine wpList_append_own_at (w7.alloc (.cells #[.int .i64 x1.kind, .string x1.name, .string x1.value] 106)) rfl _ _ 52 rfl w.heap.size 106 i0 _ 3 40 Tryz.underlying52 hi0 hz0 hz1 hz2 rfl (by decide) (.slice Ac c.length cc) c.length xs rfl (own_keep HX1.out (fun g hg => Below.heap_alloc _ _ _ (HX1.out.lt g hg).2)) ⟨w7.heap.size, 0, none⟩ 1 1 [.int .i64 x1.kind, .string x1.name, .string x1.value] rfl rfl (World.news_of_block (cs := #[.int .i64 x1.kind, .string x1.name, .string x1.value]) (t := 106) (fr := (0, 0)) (heap_alloc_new w7 _)) (by simp [Value.oneCell']) (by simp only [maxLen]; omega) (by omega) (by simp; have := Ho7.out.size; omega) ?_; intro v8 w8 hown8 hgrow8 hnil8 hat8; have Hown8 := Lib.hid hown8; have Hgrow8 := Lib.hid hgrow8; have Hat8 := Lib.hid hat8; clear hown8 hgrow8 hnil8 hat8)))
     try simp only
     have hC8 : OwnE testS 106 3 w.heap.size br w8 v8 (c ++ [x1]) := OwnE.more testS_keeps (w := w7.alloc (.cells #[.int .i64 x1.kind, .string x1.name, .string x1.value] 106)) (own_keep HX1.out (fun g hg => Below.heap_alloc _ _ _ (HX1.out.lt g hg).2)) (fun i hi => testS_keeps _ _ _ _ _ _ (HX2.out i hi) (fun b _ hb => Below.heap_alloc _ _ _ hb) (by simp) (fun _ x _ => x)) rfl ⟨rfl, hbo.1⟩ Hown8.out Hgrow8.out Hat8.out
     have hA8 : At s br b2 w8 := at_grown (at_alloc Ha7.out _) Hgrow8.out (base_ne HX1.out hbr)
     have hO8 : OffR br w w8 := off_grown (Ho7.out.trans (off_alloc _ _)) Hgrow8.out (fun r hr => (HX1.out.lt r hr).1)
     have HM8 : Hid (M = compLoop s a g (c ++ [x1]) b2) := HM
     have Hc8 := Lib.hid hC8; have Ha8 := Lib.hid hA8; have Ho8 := Lib.hid hO8
     clear hC8 hA8 hO8
     go_roundg g
     case measure => omega
     case rel => exact ⟨b2, c ++ [x1], Hc8, Ha8, by omega, by omega, by omega, by rw [List.length_append, List.length_singleton]; omega, HM8, Ho8⟩
   rw [decide_eq_false h91] at e91
   rw [if_neg h91] at hM
   clear h91 h35 h46 hxb
   by_cases hba : b = a
   ·rw [if_pos hba] at hM
    have hq : ((b : Int) == (a : Int)) = true := by rw [beq_iff_eq, hba]
    have HM := Lib.hid hM
    clear hM hba
    go_wp2_with (first | (go_at_call 132; (with_reducible refine (Hnx.out).mono ?_); rintro e w5 ⟨rfl, ha, ho⟩; obtain ⟨c0, c1, cf⟩ := ha.cells; have hcc5 := own_off testS_keeps hC.out ho hbr; have HA5 := Lib.hid ha; have HO5 := Lib.hid (hO.out.trans ho); have Hcc5 := Lib.hid hcc5; clear ha ho hcc5) | (go_at_call 133; (with_reducible refine (give_calls s br b w5 HA5.out).mono ?_); rintro e w7 ⟨rfl, rfl⟩))
    rw [HM.out]
    exact ⟨rfl, HO5.out, rfl⟩
   ·rw [if_neg hba] at hM
    have hq : ((b : Int) == (a : Int)) = false := by rw [beq_eq_false_iff_ne]; omega
    have HM := Lib.hid hM
    clear hM hba
    go_wp2_with (go_at_call 132; (with_reducible refine (Hnx.out).mono ?_); rintro e w5 ⟨rfl, ha, ho⟩; obtain ⟨c0, c1, cf⟩ := ha.cells; have hcc5 := own_off testS_keeps hC.out ho hbr; have HA5 := Lib.hid ha; have HO5 := Lib.hid (hO.out.trans ho); have Hcc5 := Lib.hid hcc5; clear ha ho hcc5)
    go_ret
    rw [HM.out]
    exact ⟨HO5.out, ⟨_, rfl, Hcc5.out.rd testS_keeps hbr⟩, HA5.out⟩
 | false =>
  rw [hT, if_neg (by decide)] at htk hM
  have Htk := Lib.hid htk
  clear htk hT
  have hlc := letter_calls (nextB s a)
  cases hL : letterB (nextB s a) with
  | false =>
   rw [hL] at hlc
   rw [hL, if_neg (by decide)] at hM
   have HM := Lib.hid hM; have Hlc := Lib.hid hlc
   clear hM hlc hL
   go_enter Tryz.func131, Tryz.ntmps131
   go_upto_region 4 with (first | (go_at_call 61; (with_reducible refine (Htk.out).mono ?_); rintro e w5 ⟨rfl, ha, ho⟩; have hn5 := next_calls s br a w5 ha; have Hn5 := Lib.hid hn5; have HO5 := Lib.hid ho; clear ha ho hn5) | (go_at_call 132; (with_reducible refine (Hn5.out).mono ?_); rintro e w6 ⟨rfl, ha, ho⟩; have HA := Lib.hid ha; have HO := Lib.hid (HO5.out.trans ho); clear ha ho) | (go_at_call 196; (with_reducible refine (Hlc.out _).mono ?_); rintro e wl ⟨rfl, rfl⟩))
   obtain ⟨b0, hb0⟩ : ∃ b0, b0 = a := ⟨_, rfl⟩
   have hb0g : s.size < b0 + (s.size + 1 - a) := by omega
   have HC := Lib.hid (OwnE.nil (E := testS) (T := 106) (sz := 3) (base := w.heap.size) (br := br) (w := w6))
   have hx1 := HA.out
   have hx2 := HM.out
   rw [show At s br a w6 = At s br b0 w6 by rw [hb0]] at hx1
   replace HA := Lib.hid hx1
   replace HM : Hid (M = compLoop s a (s.size + 1 - a) [] b0) := Lib.hid (by rw [hb0]; exact hx2)
   have hb0l := HA.out.le
   clear hb0 c0 c1 cf hx1 hx2
   go_loopg [2] (s.size + 1 - a) (fun g u wr => ∃ (b : Nat) (c : List Tst), Hid (OwnE testS 106 3 w.heap.size br wr u c) ∧ Hid (At s br b wr) ∧ a ≤ b ∧ b ≤ s.size ∧ s.size < b + g ∧ c.length ≤ b ∧ Hid (M = compLoop s a g c b) ∧ Hid (OffR br w wr))
   case atStart => exact ⟨b0, [], HC, HA, by omega, hb0l, hb0g, by simp only [List.length_nil, List.length_singleton]; omega, HM, HO⟩
   case round =>
    clear HC HA HM HO hb0l hb0g
    obtain ⟨b, c, hC, hA, hab, hbs, hbg, hcl, hMl, hO⟩ := hrel
    obtain ⟨Ac, cc, rfl⟩ := hC.out.form
    obtain ⟨wo, rfl⟩ : ∃ wo : World, wo = wr := ⟨_, rfl⟩
    obtain ⟨g, rfl⟩ : ∃ g, gk = g + 1 := ⟨gk - 1, by omega⟩
    have hnx := next_calls s br b wo hA.out
    have hM := hMl.out
    rw [compLoop] at hM
    clear hMl
    obtain ⟨x, hx⟩ : ∃ x, x = nextB s b := ⟨_, rfl⟩
    have hxb : x ≠ 0 → b < s.size := fun h => by
     by_cases hb : b < s.size
     ·exact hb
     ·rw [next_no hb] at hx; exact absurd hx h
    rw [← hx] at hnx hM
    have e46 := byte_eq x 46 46 rfl
    have e35 := byte_eq x 35 35 rfl
    have e91 := byte_eq x 91 91 rfl
    have Hnx := Lib.hid hnx
    clear hnx hx
    by_cases h46 : x = 46
    ·have hbz := hxb (by rw [h46]; decide)
     rw [decide_eq_true h46] at e46
     rw [if_pos h46] at hM
     clear e35 e91 h46 hxb
     have hbw : IntKind.i64.wrap ((b : Int) + 1) = (b : Int) + 1 := by rw [IntKind.wrap_i64]; omega
     cases hN : nameP s (b + 1) with
     | error e1 =>
      rw [hN] at hM
      have HM := Lib.hid hM
      clear hM
      go_wp2_with (first | (go_at_call 132; (with_reducible refine (Hnx.out).mono ?_); rintro e w5 ⟨rfl, ha, ho⟩; obtain ⟨c0, c1, cf⟩ := ha.cells; have hs5 : At s br (b + 1) (w5.setCell ⟨br, 1, none⟩ (.int .i64 ((b : Int) + 1))) := ha.set (b := b + 1) (by omega); have ho5 : OffR br w (w5.setCell ⟨br, 1, none⟩ (.int .i64 ((b : Int) + 1))) := (hO.out.trans ho).trans (Off.setCell (Y := fun b => b = br) w5 ⟨br, 1, none⟩ _ rfl); have hc5 := own_off testS_keeps hC.out (ho.trans (Off.setCell (Y := fun b => b = br) w5 ⟨br, 1, none⟩ (.int .i64 ((b : Int) + 1)) rfl)) hbr; have hcc5 := own_off testS_keeps hC.out ho hbr; have HA5 := Lib.hid ha; have HO5 := Lib.hid (hO.out.trans ho); have Hs5 := Lib.hid hs5; have Hos5 := Lib.hid ho5; have Hc5 := Lib.hid hc5; have Hcc5 := Lib.hid hcc5; clear ha ho hs5 ho5 hc5 hcc5) | (go_at_call 197; (with_reducible refine (by have := name_calls s br (b + 1) _ Hs5.out; rw [hN] at this; exact this : Calls _ _ _ _ (PP s br (w5.setCell ⟨br, 1, none⟩ (.int .i64 ((b : Int) + 1))) (.error e1) (fun x v _ => v = .string x))).mono ?_); rintro e w7 ⟨ho7, rfl⟩; have Ho7 := Lib.hid (Hos5.out.trans ho7); clear ho7))
      rw [HM.out]
      exact ⟨rfl, Ho7.out, rfl⟩
     | ok x =>
      obtain ⟨x1, b2⟩ := x
      rw [hN] at hM
      have hbo := name_ok hN (by omega)
      have hb2 : b + 1 < b2 ∧ b2 ≤ s.size := hbo.2
      have HM := Lib.hid hM; have Hb2 := Lib.hid hb2
      clear hM
      go_wp2_with (first | (go_at_call 132; (with_reducible refine (Hnx.out).mono ?_); rintro e w5 ⟨rfl, ha, ho⟩; obtain ⟨c0, c1, cf⟩ := ha.cells; have hs5 : At s br (b + 1) (w5.setCell ⟨br, 1, none⟩ (.int .i64 ((b : Int) + 1))) := ha.set (b := b + 1) (by omega); have ho5 : OffR br w (w5.setCell ⟨br, 1, none⟩ (.int .i64 ((b : Int) + 1))) := (hO.out.trans ho).trans (Off.setCell (Y := fun b => b = br) w5 ⟨br, 1, none⟩ _ rfl); have hc5 := own_off testS_keeps hC.out (ho.trans (Off.setCell (Y := fun b => b = br) w5 ⟨br, 1, none⟩ (.int .i64 ((b : Int) + 1)) rfl)) hbr; have hcc5 := own_off testS_keeps hC.out ho hbr; have HA5 := Lib.hid ha; have HO5 := Lib.hid (hO.out.trans ho); have Hs5 := Lib.hid hs5; have Hos5 := Lib.hid ho5; have Hc5 := Lib.hid hc5; have Hcc5 := Lib.hid hcc5; clear ha ho hs5 ho5 hc5 hcc5) | (go_at_call 197; (with_reducible refine (by have := name_calls s br (b + 1) _ Hs5.out; rw [hN] at this; exact this : Calls _ _ _ _ (PP s br (w5.setCell ⟨br, 1, none⟩ (.int .i64 ((b : Int) + 1))) (.ok (x1, b2)) (fun x v _ => v = .string x))).mono ?_); rintro e w7 ⟨ho7, ⟨v7, rfl, rfl⟩, ha7⟩; have hc7 := own_off testS_keeps Hc5.out ho7 hbr; obtain ⟨xs, hx1, hx2⟩ := hc7.out; have HX1 := Lib.hid hx1; have HX2 := Lib.hid hx2; have Ha7 := Lib.hid ha7; have Ho7 := Lib.hid (Hos5.out.trans ho7); clear ho7 ha7 hc7 hx1 hx2) | (at_builtin; go_loud (refine wpList_append_own_at (w7.alloc (.cells #[.int .i64 3, .string x1, .string ⟨#[]⟩] 106)) rfl _ _ 52 rfl w.heap.size 106 i0 _ 3 40 Tryz.underlying52 hi0 hz0 hz1 hz2 rfl (by decide) (.slice Ac c.length cc) c.length xs rfl (own_keep HX1.out (fun g hg => Below.heap_alloc _ _ _ (HX1.out.lt g hg).2)) ⟨w7.heap.size, 0, none⟩ 1 1 [.int .i64 3, .string x1, .string ⟨#[]⟩] rfl rfl (World.news_of_block (cs := #[.int .i64 3, .string x1, .string ⟨#[]⟩]) (t := 106) (fr := (0, 0)) (heap_alloc_new w7 _)) (by simp [Value.oneCell']) (by simp only [maxLen]; omega) (by omega) (by simp; have := Ho7.out.size; omega) ?_; intro v8 w8 hown8 hgrow8 hnil8 hat8; have Hown8 := Lib.hid hown8; have Hgrow8 := Lib.hid hgrow8; have Hat8 := Lib.hid hat8; clear hown8 hgrow8 hnil8 hat8)))
      try simp only
      have hC8 : OwnE testS 106 3 w.heap.size br w8 v8 (c ++ [{ kind := 3, name := x1, value := ⟨#[]⟩ }]) := OwnE.more testS_keeps (w := w7.alloc (.cells #[.int .i64 3, .string x1, .string ⟨#[]⟩] 106)) (own_keep HX1.out (fun g hg => Below.heap_alloc _ _ _ (HX1.out.lt g hg).2)) (fun i hi => testS_keeps _ _ _ _ _ _ (HX2.out i hi) (fun b _ hb => Below.heap_alloc _ _ _ hb) (by simp) (fun _ x _ => x)) rfl ⟨rfl, ⟨Nat.le_trans hbo.1 (by decide), Nat.zero_le _, rfl⟩⟩ Hown8.out Hgrow8.out Hat8.out
      have hA8 : At s br b2 w8 := at_grown (at_alloc Ha7.out _) Hgrow8.out (base_ne HX1.out hbr)
      have hO8 : OffR br w w8 := off_grown (Ho7.out.trans (off_alloc _ _)) Hgrow8.out (fun r hr => (HX1.out.lt r hr).1)
      have HM8 : Hid (M = compLoop s a g (c ++ [{ kind := 3, name := x1 }]) b2) := HM
      have Hc8 := Lib.hid hC8; have Ha8 := Lib.hid hA8; have Ho8 := Lib.hid hO8
      clear hC8 hA8 hO8
      go_roundg g
      case measure => omega
      case rel => exact ⟨b2, c ++ [{ kind := 3, name := x1 }], Hc8, Ha8, by omega, by omega, by omega, by rw [List.length_append, List.length_singleton]; omega, HM8, Ho8⟩
    rw [decide_eq_false h46] at e46
    rw [if_neg h46] at hM
    by_cases h35 : x = 35
    ·have hbz := hxb (by rw [h35]; decide)
     rw [decide_eq_true h35] at e35
     rw [if_pos h35] at hM
     clear e91 h35 h46 hxb
     have hbw : IntKind.i64.wrap ((b : Int) + 1) = (b : Int) + 1 := by rw [IntKind.wrap_i64]; omega
     cases hN : nameP s (b + 1) with
     | error e1 =>
      rw [hN] at hM
      have HM := Lib.hid hM
      clear hM
      go_wp2_with (first | (go_at_call 132; (with_reducible refine (Hnx.out).mono ?_); rintro e w5 ⟨rfl, ha, ho⟩; obtain ⟨c0, c1, cf⟩ := ha.cells; have hs5 : At s br (b + 1) (w5.setCell ⟨br, 1, none⟩ (.int .i64 ((b : Int) + 1))) := ha.set (b := b + 1) (by omega); have ho5 : OffR br w (w5.setCell ⟨br, 1, none⟩ (.int .i64 ((b : Int) + 1))) := (hO.out.trans ho).trans (Off.setCell (Y := fun b => b = br) w5 ⟨br, 1, none⟩ _ rfl); have hc5 := own_off testS_keeps hC.out (ho.trans (Off.setCell (Y := fun b => b = br) w5 ⟨br, 1, none⟩ (.int .i64 ((b : Int) + 1)) rfl)) hbr; have hcc5 := own_off testS_keeps hC.out ho hbr; have HA5 := Lib.hid ha; have HO5 := Lib.hid (hO.out.trans ho); have Hs5 := Lib.hid hs5; have Hos5 := Lib.hid ho5; have Hc5 := Lib.hid hc5; have Hcc5 := Lib.hid hcc5; clear ha ho hs5 ho5 hc5 hcc5) | (go_at_call 197; (with_reducible refine (by have := name_calls s br (b + 1) _ Hs5.out; rw [hN] at this; exact this : Calls _ _ _ _ (PP s br (w5.setCell ⟨br, 1, none⟩ (.int .i64 ((b : Int) + 1))) (.error e1) (fun x v _ => v = .string x))).mono ?_); rintro e w7 ⟨ho7, rfl⟩; have Ho7 := Lib.hid (Hos5.out.trans ho7); clear ho7))
      rw [HM.out]
      exact ⟨rfl, Ho7.out, rfl⟩
     | ok x =>
      obtain ⟨x1, b2⟩ := x
      rw [hN] at hM
      have hbo := name_ok hN (by omega)
      have hb2 : b + 1 < b2 ∧ b2 ≤ s.size := hbo.2
      have HM := Lib.hid hM; have Hb2 := Lib.hid hb2
      clear hM
      go_wp2_with (first | (go_at_call 132; (with_reducible refine (Hnx.out).mono ?_); rintro e w5 ⟨rfl, ha, ho⟩; obtain ⟨c0, c1, cf⟩ := ha.cells; have hs5 : At s br (b + 1) (w5.setCell ⟨br, 1, none⟩ (.int .i64 ((b : Int) + 1))) := ha.set (b := b + 1) (by omega); have ho5 : OffR br w (w5.setCell ⟨br, 1, none⟩ (.int .i64 ((b : Int) + 1))) := (hO.out.trans ho).trans (Off.setCell (Y := fun b => b = br) w5 ⟨br, 1, none⟩ _ rfl); have hc5 := own_off testS_keeps hC.out (ho.trans (Off.setCell (Y := fun b => b = br) w5 ⟨br, 1, none⟩ (.int .i64 ((b : Int) + 1)) rfl)) hbr; have hcc5 := own_off testS_keeps hC.out ho hbr; have HA5 := Lib.hid ha; have HO5 := Lib.hid (hO.out.trans ho); have Hs5 := Lib.hid hs5; have Hos5 := Lib.hid ho5; have Hc5 := Lib.hid hc5; have Hcc5 := Lib.hid hcc5; clear ha ho hs5 ho5 hc5 hcc5) | (go_at_call 197; (with_reducible refine (by have := name_calls s br (b + 1) _ Hs5.out; rw [hN] at this; exact this : Calls _ _ _ _ (PP s br (w5.setCell ⟨br, 1, none⟩ (.int .i64 ((b : Int) + 1))) (.ok (x1, b2)) (fun x v _ => v = .string x))).mono ?_); rintro e w7 ⟨ho7, ⟨v7, rfl, rfl⟩, ha7⟩; have hc7 := own_off testS_keeps Hc5.out ho7 hbr; obtain ⟨xs, hx1, hx2⟩ := hc7.out; have HX1 := Lib.hid hx1; have HX2 := Lib.hid hx2; have Ha7 := Lib.hid ha7; have Ho7 := Lib.hid (Hos5.out.trans ho7); clear ho7 ha7 hc7 hx1 hx2) | (at_builtin; go_loud (refine wpList_append_own_at (w7.alloc (.cells #[.int .i64 2, .string x1, .string ⟨#[]⟩] 106)) rfl _ _ 52 rfl w.heap.size 106 i0 _ 3 40 Tryz.underlying52 hi0 hz0 hz1 hz2 rfl (by decide) (.slice Ac c.length cc) c.length xs rfl (own_keep HX1.out (fun g hg => Below.heap_alloc _ _ _ (HX1.out.lt g hg).2)) ⟨w7.heap.size, 0, none⟩ 1 1 [.int .i64 2, .string x1, .string ⟨#[]⟩] rfl rfl (World.news_of_block (cs := #[.int .i64 2, .string x1, .string ⟨#[]⟩]) (t := 106) (fr := (0, 0)) (heap_alloc_new w7 _)) (by simp [Value.oneCell']) (by simp only [maxLen]; omega) (by omega) (by simp; have := Ho7.out.size; omega) ?_; intro v8 w8 hown8 hgrow8 hnil8 hat8; have Hown8 := Lib.hid hown8; have Hgrow8 := Lib.hid hgrow8; have Hat8 := Lib.hid hat8; clear hown8 hgrow8 hnil8 hat8)))
      try simp only
      have hC8 : OwnE testS 106 3 w.heap.size br w8 v8 (c ++ [{ kind := 2, name := x1, value := ⟨#[]⟩ }]) := OwnE.more testS_keeps (w := w7.alloc (.cells #[.int .i64 2, .string x1, .string ⟨#[]⟩] 106)) (own_keep HX1.out (fun g hg => Below.heap_alloc _ _ _ (HX1.out.lt g hg).2)) (fun i hi => testS_keeps _ _ _ _ _ _ (HX2.out i hi) (fun b _ hb => Below.heap_alloc _ _ _ hb) (by simp) (fun _ x _ => x)) rfl ⟨rfl, ⟨Nat.le_trans hbo.1 (by decide), Nat.zero_le _, rfl⟩⟩ Hown8.out Hgrow8.out Hat8.out
      have hA8 : At s br b2 w8 := at_grown (at_alloc Ha7.out _) Hgrow8.out (base_ne HX1.out hbr)
      have hO8 : OffR br w w8 := off_grown (Ho7.out.trans (off_alloc _ _)) Hgrow8.out (fun r hr => (HX1.out.lt r hr).1)
      have HM8 : Hid (M = compLoop s a g (c ++ [{ kind := 2, name := x1 }]) b2) := HM
      have Hc8 := Lib.hid hC8; have Ha8 := Lib.hid hA8; have Ho8 := Lib.hid hO8
      clear hC8 hA8 hO8
      go_roundg g
      case measure => omega
      case rel => exact ⟨b2, c ++ [{ kind := 2, name := x1 }], Hc8, Ha8, by omega, by omega, by omega, by rw [List.length_append, List.length_singleton]; omega, HM8, Ho8⟩
    rw [decide_eq_false h35] at e35
    rw [if_neg h35] at hM
    by_cases h91 : x = 91
    ·have hbz := hxb (by rw [h91]; decide)
     rw [decide_eq_true h91] at e91
     rw [if_pos h91] at hM
     clear h91 h35 h46 hxb
     have hbw : IntKind.i64.wrap ((b : Int) + 1) = (b : Int) + 1 := by rw [IntKind.wrap_i64]; omega
     cases hN : bracketsP s (b + 1) with
     | error e1 =>
      rw [hN] at hM
      have HM := Lib.hid hM
      clear hM
      go_wp2_with (first | (go_at_call 132; (with_reducible refine (Hnx.out).mono ?_); rintro e w5 ⟨rfl, ha, ho⟩; obtain ⟨c0, c1, cf⟩ := ha.cells; have hs5 : At s br (b + 1) (w5.setCell ⟨br, 1, none⟩ (.int .i64 ((b : Int) + 1))) := ha.set (b := b + 1) (by omega); have ho5 : OffR br w (w5.setCell ⟨br, 1, none⟩ (.int .i64 ((b : Int) + 1))) := (hO.out.trans ho).trans (Off.setCell (Y := fun b => b = br) w5 ⟨br, 1, none⟩ _ rfl); have hc5 := own_off testS_keeps hC.out (ho.trans (Off.setCell (Y := fun b => b = br) w5 ⟨br, 1, none⟩ (.int .i64 ((b : Int) + 1)) rfl)) hbr; have hcc5 := own_off testS_keeps hC.out ho hbr; have HA5 := Lib.hid ha; have HO5 := Lib.hid (hO.out.trans ho); have Hs5 := Lib.hid hs5; have Hos5 := Lib.hid ho5; have Hc5 := Lib.hid hc5; have Hcc5 := Lib.hid hcc5; clear ha ho hs5 ho5 hc5 hcc5) | (go_at_call 198; (with_reducible refine (by have := brackets_calls s br (b + 1) _ Hs5.out; rw [hN] at this; exact this : Calls _ _ _ _ (PP s br (w5.setCell ⟨br, 1, none⟩ (.int .i64 ((b : Int) + 1))) (.error e1) (fun x v _ => v = tsV x))).mono ?_); rintro e w7 ⟨ho7, rfl⟩; have Ho7 := Lib.hid (Hos5.out.trans ho7); clear ho7))
      rw [HM.out]
      exact ⟨rfl, Ho7.out, rfl⟩
     | ok x =>
      obtain ⟨x1, b2⟩ := x
      rw [hN] at hM
      have hbo := brackets_ok hN (by omega)
      have hb2 : b + 1 < b2 ∧ b2 ≤ s.size := hbo.2
      have HM := Lib.hid hM; have Hb2 := Lib.hid hb2
      clear hM
      go_wp2_with (first | (go_at_call 132; (with_reducible refine (Hnx.out).mono ?_); rintro e w5 ⟨rfl, ha, ho⟩; obtain ⟨c0, c1, cf⟩ := ha.cells; have hs5 : At s br (b + 1) (w5.setCell ⟨br, 1, none⟩ (.int .i64 ((b : Int) + 1))) := ha.set (b := b + 1) (by omega); have ho5 : OffR br w (w5.setCell ⟨br, 1, none⟩ (.int .i64 ((b : Int) + 1))) := (hO.out.trans ho).trans (Off.setCell (Y := fun b => b = br) w5 ⟨br, 1, none⟩ _ rfl); have hc5 := own_off testS_keeps hC.out (ho.trans (Off.setCell (Y := fun b => b = br) w5 ⟨br, 1, none⟩ (.int .i64 ((b : Int) + 1)) rfl)) hbr; have hcc5 := own_off testS_keeps hC.out ho hbr; have HA5 := Lib.hid ha; have HO5 := Lib.hid (hO.out.trans ho); have Hs5 := Lib.hid hs5; have Hos5 := Lib.hid ho5; have Hc5 := Lib.hid hc5; have Hcc5 := Lib.hid hcc5; clear ha ho hs5 ho5 hc5 hcc5) | (go_at_call 198; (with_reducible refine (by have := brackets_calls s br (b + 1) _ Hs5.out; rw [hN] at this; exact this : Calls _ _ _ _ (PP s br (w5.setCell ⟨br, 1, none⟩ (.int .i64 ((b : Int) + 1))) (.ok (x1, b2)) (fun x v _ => v = tsV x))).mono ?_); rintro e w7 ⟨ho7, ⟨v7, rfl, rfl⟩, ha7⟩; have hc7 := own_off testS_keeps Hc5.out ho7 hbr; obtain ⟨xs, hx1, hx2⟩ := hc7.out; have HX1 := Lib.hid hx1; have HX2 := Lib.hid hx2; have Ha7 := Lib.hid ha7; have Ho7 := Lib.hid (Hos5.out.trans ho7); clear ho7 ha7 hc7 hx1 hx2) | (at_builtin; go_loud (refine wpList_append_own_at (w7.alloc (.cells #[.int .i64 x1.kind, .string x1.name, .string x1.value] 106)) rfl _ _ 52 rfl w.heap.size 106 i0 _ 3 40 Tryz.underlying52 hi0 hz0 hz1 hz2 rfl (by decide) (.slice Ac c.length cc) c.length xs rfl (own_keep HX1.out (fun g hg => Below.heap_alloc _ _ _ (HX1.out.lt g hg).2)) ⟨w7.heap.size, 0, none⟩ 1 1 [.int .i64 x1.kind, .string x1.name, .string x1.value] rfl rfl (World.news_of_block (cs := #[.int .i64 x1.kind, .string x1.name, .string x1.value]) (t := 106) (fr := (0, 0)) (heap_alloc_new w7 _)) (by simp [Value.oneCell']) (by simp only [maxLen]; omega) (by omega) (by simp; have := Ho7.out.size; omega) ?_; intro v8 w8 hown8 hgrow8 hnil8 hat8; have Hown8 := Lib.hid hown8; have Hgrow8 := Lib.hid hgrow8; have Hat8 := Lib.hid hat8; clear hown8 hgrow8 hnil8 hat8)))
      try simp only
      have hC8 : OwnE testS 106 3 w.heap.size br w8 v8 (c ++ [x1]) := OwnE.more testS_keeps (w := w7.alloc (.cells #[.int .i64 x1.kind, .string x1.name, .string x1.value] 106)) (own_keep HX1.out (fun g hg => Below.heap_alloc _ _ _ (HX1.out.lt g hg).2)) (fun i hi => testS_keeps _ _ _ _ _ _ (HX2.out i hi) (fun b _ hb => Below.heap_alloc _ _ _ hb) (by simp) (fun _ x _ => x)) rfl ⟨rfl, hbo.1⟩ Hown8.out Hgrow8.out Hat8.out
      have hA8 : At s br b2 w8 := at_grown (at_alloc Ha7.out _) Hgrow8.out (base_ne HX1.out hbr)
      have hO8 : OffR br w w8 := off_grown (Ho7.out.trans (off_alloc _ _)) Hgrow8.out (fun r hr => (HX1.out.lt r hr).1)
      have HM8 : Hid (M = compLoop s a g (c ++ [x1]) b2) := HM
      have Hc8 := Lib.hid hC8; have Ha8 := Lib.hid hA8; have Ho8 := Lib.hid hO8
      clear hC8 hA8 hO8
      go_roundg g
      case measure => omega
      case rel => exact ⟨b2, c ++ [x1], Hc8, Ha8, by omega, by omega, by omega, by rw [List.length_append, List.length_singleton]; omega, HM8, Ho8⟩
    rw [decide_eq_false h91] at e91
    rw [if_neg h91] at hM
    clear h91 h35 h46 hxb
    by_cases hba : b = a
    ·rw [if_pos hba] at hM
     have hq : ((b : Int) == (a : Int)) = true := by rw [beq_iff_eq, hba]
     have HM := Lib.hid hM
     clear hM hba
     go_wp2_with (first | (go_at_call 132; (with_reducible refine (Hnx.out).mono ?_); rintro e w5 ⟨rfl, ha, ho⟩; obtain ⟨c0, c1, cf⟩ := ha.cells; have hcc5 := own_off testS_keeps hC.out ho hbr; have HA5 := Lib.hid ha; have HO5 := Lib.hid (hO.out.trans ho); have Hcc5 := Lib.hid hcc5; clear ha ho hcc5) | (go_at_call 133; (with_reducible refine (give_calls s br b w5 HA5.out).mono ?_); rintro e w7 ⟨rfl, rfl⟩))
     rw [HM.out]
     exact ⟨rfl, HO5.out, rfl⟩
    ·rw [if_neg hba] at hM
     have hq : ((b : Int) == (a : Int)) = false := by rw [beq_eq_false_iff_ne]; omega
     have HM := Lib.hid hM
     clear hM hba
     go_wp2_with (go_at_call 132; (with_reducible refine (Hnx.out).mono ?_); rintro e w5 ⟨rfl, ha, ho⟩; obtain ⟨c0, c1, cf⟩ := ha.cells; have hcc5 := own_off testS_keeps hC.out ho hbr; have HA5 := Lib.hid ha; have HO5 := Lib.hid (hO.out.trans ho); have Hcc5 := Lib.hid hcc5; clear ha ho hcc5)
     go_ret
     rw [HM.out]
     exact ⟨HO5.out, ⟨_, rfl, Hcc5.out.rd testS_keeps hbr⟩, HA5.out⟩
  | true =>
   rw [hL] at hlc
   rw [hL, if_pos rfl] at hM
   cases hN : nameP s a with
   | error b =>
    rw [hN] at hM
    have HM := Lib.hid hM; have Hlc := Lib.hid hlc
    clear hM hlc hL
    go_enter Tryz.func131, Tryz.ntmps131
    go_wp2_with (first | (go_at_call 61; (with_reducible refine (Htk.out).mono ?_); rintro e w5 ⟨rfl, ha, ho⟩; have hn5 := next_calls s br a w5 ha; have Hn5 := Lib.hid hn5; have HO5 := Lib.hid ho; clear ha ho hn5) | (go_at_call 132; (with_reducible refine (Hn5.out).mono ?_); rintro e w6 ⟨rfl, ha, ho⟩; have HA := Lib.hid ha; have HO := Lib.hid (HO5.out.trans ho); clear ha ho) | (go_at_call 196; (with_reducible refine (Hlc.out _).mono ?_); rintro e wl ⟨rfl, rfl⟩) | (go_at_call 197; (with_reducible refine (by have := name_calls s br a w6 HA.out; rw [hN] at this; exact this : Calls _ _ _ _ (PP s br w6 (.error b) (fun x v _ => v = .string x))).mono ?_); rintro e w7 ⟨ho7, rfl⟩; have Ho7 := Lib.hid (HO.out.trans ho7); clear ho7))
    rw [HM.out]
    exact ⟨rfl, Ho7.out, rfl⟩
   | ok x =>
    obtain ⟨nm, a2⟩ := x
    rw [hN] at hM
    have hno := name_ok hN hle
    have HM := Lib.hid hM; have Hlc := Lib.hid hlc
    clear hM hlc hL
    go_enter Tryz.func131, Tryz.ntmps131
    go_upto_region 4 with (first | (go_at_call 61; (with_reducible refine (Htk.out).mono ?_); rintro e w5 ⟨rfl, ha, ho⟩; have hn5 := next_calls s br a w5 ha; have Hn5 := Lib.hid hn5; have HO5 := Lib.hid ho; clear ha ho hn5) | (go_at_call 132; (with_reducible refine (Hn5.out).mono ?_); rintro e w6 ⟨rfl, ha, ho⟩; have HA := Lib.hid ha; have HO := Lib.hid (HO5.out.trans ho); clear ha ho) | (go_at_call 196; (with_reducible refine (Hlc.out _).mono ?_); rintro e wl ⟨rfl, rfl⟩) | (go_at_call 197; (with_reducible refine (by have := name_calls s br a w6 HA.out; rw [hN] at this; exact this : Calls _ _ _ _ (PP s br w6 (.ok (nm, a2)) (fun x v _ => v = .string x))).mono ?_); rintro e w7 ⟨ho7, ⟨v7, rfl, rfl⟩, ha7⟩; have hX := World.ownsRow_nil w7 w.heap.size 106 3; have HX1 := Lib.hid hX; have Ha7 := Lib.hid ha7; have Ho7 := Lib.hid (HO.out.trans ho7); clear ho7 ha7 hX) | (at_builtin; go_loud (refine wpList_append_own_at (w7.alloc (.cells #[.int .i64 1, .string nm, .string ⟨#[]⟩] 106)) rfl _ _ 52 rfl w.heap.size 106 i0 _ 3 40 Tryz.underlying52 hi0 hz0 hz1 hz2 rfl (by decide) (.slice none 0 0) 0 [] rfl (own_keep HX1.out (fun g hg => Below.heap_alloc _ _ _ (HX1.out.lt g hg).2)) ⟨w7.heap.size, 0, none⟩ 1 1 [.int .i64 1, .string nm, .string ⟨#[]⟩] rfl rfl (World.news_of_block (cs := #[.int .i64 1, .string nm, .string ⟨#[]⟩]) (t := 106) (fr := (0, 0)) (heap_alloc_new w7 _)) (by simp [Value.oneCell']) (by simp only [maxLen]; omega) (by omega) (by simp; have := Ho7.out.size; omega) ?_; intro v8 w8 hown8 hgrow8 hnil8 hat8; have Hown8 := Lib.hid hown8; have Hgrow8 := Lib.hid hgrow8; have Hat8 := Lib.hid hat8; clear hown8 hgrow8 hnil8 hat8)))
    try simp only
    have hC8 : OwnE testS 106 3 w.heap.size br w8 v8 ([] ++ [{ kind := 1, name := nm, value := ⟨#[]⟩ }]) := OwnE.more (l := []) testS_keeps (w := w7.alloc (.cells #[.int .i64 1, .string nm, .string ⟨#[]⟩] 106)) (own_keep HX1.out (fun g hg => Below.heap_alloc _ _ _ (HX1.out.lt g hg).2)) (fun i hi => testS_keeps _ _ _ _ _ _ (absurd hi (by simp)) (fun b _ hb => Below.heap_alloc _ _ _ hb) (by simp) (fun _ x _ => x)) rfl ⟨rfl, ⟨Nat.le_trans hno.1 (by decide), Nat.zero_le _, rfl⟩⟩ Hown8.out Hgrow8.out Hat8.out
    have hA8 : At s br a2 w8 := at_grown (at_alloc Ha7.out _) Hgrow8.out (fun e => by cases e)
    have hO8 : OffR br w w8 := off_grown (Ho7.out.trans (off_alloc _ _)) Hgrow8.out (fun r hr => (HX1.out.lt r hr).1)
    obtain ⟨b0, hb0⟩ : ∃ b0, b0 = a2 := ⟨_, rfl⟩
    have hb0g : s.size < b0 + (s.size + 1 - a) := by omega
    have hx2 := HM.out
    rw [show At s br a2 w8 = At s br b0 w8 by rw [hb0]] at hA8
    have hM0 : M = compLoop s a (s.size + 1 - a) [{ kind := 1, name := nm }] b0 := by rw [hb0]; exact hx2
    have hb0l := hA8.le
    have hx3 : 1 ≤ b0 := by omega
    have HC : Hid (OwnE testS 106 3 w.heap.size br w8 v8 [{ kind := 1, name := nm }]) := Lib.hid hC8
    clear HA HM HO
    have HA := Lib.hid hA8; have HO := Lib.hid hO8; have HM := Lib.hid hM0
    clear hA8 hO8 hM0 hC8 hb0 hx2 c0 c1 cf HX1 Ha7 Ho7 Hown8 Hgrow8 Hat8 hN hno
    go_loopg [2] (s.size + 1 - a) (fun g u wr => ∃ (b : Nat) (c : List Tst), Hid (OwnE testS 106 3 w.heap.size br wr u c) ∧ Hid (At s br b wr) ∧ a ≤ b ∧ b ≤ s.size ∧ s.size < b + g ∧ c.length ≤ b ∧ Hid (M = compLoop s a g c b) ∧ Hid (OffR br w wr))
    case atStart => exact ⟨b0, [{ kind := 1, name := nm }], HC, HA, by omega, hb0l, hb0g, by simp only [List.length_nil, List.length_singleton]; omega, HM, HO⟩
    case round =>
     clear HC HA HM HO hb0l hb0g
     obtain ⟨b, c, hC, hA, hab, hbs, hbg, hcl, hMl, hO⟩ := hrel
     obtain ⟨Ac, cc, rfl⟩ := hC.out.form
     obtain ⟨wo, rfl⟩ : ∃ wo : World, wo = wr := ⟨_, rfl⟩
     obtain ⟨g, rfl⟩ : ∃ g, gk = g + 1 := ⟨gk - 1, by omega⟩
     have hnx := next_calls s br b wo hA.out
     have hM := hMl.out
     rw [compLoop] at hM
     clear hMl
     obtain ⟨x, hx⟩ : ∃ x, x = nextB s b := ⟨_, rfl⟩
     have hxb : x ≠ 0 → b < s.size := fun h => by
      by_cases hb : b < s.size
      ·exact hb
      ·rw [next_no hb] at hx; exact absurd hx h
     rw [← hx] at hnx hM
     have e46 := byte_eq x 46 46 rfl
     have e35 := byte_eq x 35 35 rfl
     have e91 := byte_eq x 91 91 rfl
     have Hnx := Lib.hid hnx
     clear hnx hx
     by_cases h46 : x = 46
     ·have hbz := hxb (by rw [h46]; decide)
      rw [decide_eq_true h46] at e46
      rw [if_pos h46] at hM
      clear e35 e91 h46 hxb
      have hbw : IntKind.i64.wrap ((b : Int) + 1) = (b : Int) + 1 := by rw [IntKind.wrap_i64]; omega
      cases hN : nameP s (b + 1) with
      | error e1 =>
       rw [hN] at hM
       have HM := Lib.hid hM
       clear hM
       go_wp2_with (first | (go_at_call 132; (with_reducible refine (Hnx.out).mono ?_); rintro e w5 ⟨rfl, ha, ho⟩; obtain ⟨c0, c1, cf⟩ := ha.cells; have hs5 : At s br (b + 1) (w5.setCell ⟨br, 1, none⟩ (.int .i64 ((b : Int) + 1))) := ha.set (b := b + 1) (by omega); have ho5 : OffR br w (w5.setCell ⟨br, 1, none⟩ (.int .i64 ((b : Int) + 1))) := (hO.out.trans ho).trans (Off.setCell (Y := fun b => b = br) w5 ⟨br, 1, none⟩ _ rfl); have hc5 := own_off testS_keeps hC.out (ho.trans (Off.setCell (Y := fun b => b = br) w5 ⟨br, 1, none⟩ (.int .i64 ((b : Int) + 1)) rfl)) hbr; have hcc5 := own_off testS_keeps hC.out ho hbr; have HA5 := Lib.hid ha; have HO5 := Lib.hid (hO.out.trans ho); have Hs5 := Lib.hid hs5; have Hos5 := Lib.hid ho5; have Hc5 := Lib.hid hc5; have Hcc5 := Lib.hid hcc5; clear ha ho hs5 ho5 hc5 hcc5) | (go_at_call 197; (with_reducible refine (by have := name_calls s br (b + 1) _ Hs5.out; rw [hN] at this; exact this : Calls _ _ _ _ (PP s br (w5.setCell ⟨br, 1, none⟩ (.int .i64 ((b : Int) + 1))) (.error e1) (fun x v _ => v = .string x))).mono ?_); rintro e w7 ⟨ho7, rfl⟩; have Ho7 := Lib.hid (Hos5.out.trans ho7); clear ho7))
       rw [HM.out]
       exact ⟨rfl, Ho7.out, rfl⟩
      | ok x =>
       obtain ⟨x1, b2⟩ := x
       rw [hN] at hM
       have hbo := name_ok hN (by omega)
       have hb2 : b + 1 < b2 ∧ b2 ≤ s.size := hbo.2
       have HM := Lib.hid hM; have Hb2 := Lib.hid hb2
       clear hM
       go_wp2_with (first | (go_at_call 132; (with_reducible refine (Hnx.out).mono ?_); rintro e w5 ⟨rfl, ha, ho⟩; obtain ⟨c0, c1, cf⟩ := ha.cells; have hs5 : At s br (b + 1) (w5.setCell ⟨br, 1, none⟩ (.int .i64 ((b : Int) + 1))) := ha.set (b := b + 1) (by omega); have ho5 : OffR br w (w5.setCell ⟨br, 1, none⟩ (.int .i64 ((b : Int) + 1))) := (hO.out.trans ho).trans (Off.setCell (Y := fun b => b = br) w5 ⟨br, 1, none⟩ _ rfl); have hc5 := own_off testS_keeps hC.out (ho.trans (Off.setCell (Y := fun b => b = br) w5 ⟨br, 1, none⟩ (.int .i64 ((b : Int) + 1)) rfl)) hbr; have hcc5 := own_off testS_keeps hC.out ho hbr; have HA5 := Lib.hid ha; have HO5 := Lib.hid (hO.out.trans ho); have Hs5 := Lib.hid hs5; have Hos5 := Lib.hid ho5; have Hc5 := Lib.hid hc5; have Hcc5 := Lib.hid hcc5; clear ha ho hs5 ho5 hc5 hcc5) | (go_at_call 197; (with_reducible refine (by have := name_calls s br (b + 1) _ Hs5.out; rw [hN] at this; exact this : Calls _ _ _ _ (PP s br (w5.setCell ⟨br, 1, none⟩ (.int .i64 ((b : Int) + 1))) (.ok (x1, b2)) (fun x v _ => v = .string x))).mono ?_); rintro e w7 ⟨ho7, ⟨v7, rfl, rfl⟩, ha7⟩; have hc7 := own_off testS_keeps Hc5.out ho7 hbr; obtain ⟨xs, hx1, hx2⟩ := hc7.out; have HX1 := Lib.hid hx1; have HX2 := Lib.hid hx2; have Ha7 := Lib.hid ha7; have Ho7 := Lib.hid (Hos5.out.trans ho7); clear ho7 ha7 hc7 hx1 hx2) | (at_builtin; go_loud (refine wpList_append_own_at (w7.alloc (.cells #[.int .i64 3, .string x1, .string ⟨#[]⟩] 106)) rfl _ _ 52 rfl w.heap.size 106 i0 _ 3 40 Tryz.underlying52 hi0 hz0 hz1 hz2 rfl (by decide) (.slice Ac c.length cc) c.length xs rfl (own_keep HX1.out (fun g hg => Below.heap_alloc _ _ _ (HX1.out.lt g hg).2)) ⟨w7.heap.size, 0, none⟩ 1 1 [.int .i64 3, .string x1, .string ⟨#[]⟩] rfl rfl (World.news_of_block (cs := #[.int .i64 3, .string x1, .string ⟨#[]⟩]) (t := 106) (fr := (0, 0)) (heap_alloc_new w7 _)) (by simp [Value.oneCell']) (by simp only [maxLen]; omega) (by omega) (by simp; have := Ho7.out.size; omega) ?_; intro v8 w8 hown8 hgrow8 hnil8 hat8; have Hown8 := Lib.hid hown8; have Hgrow8 := Lib.hid hgrow8; have Hat8 := Lib.hid hat8; clear hown8 hgrow8 hnil8 hat8)))
       try simp only
       have hC8 : OwnE testS 106 3 w.heap.size br w8 v8 (c ++ [{ kind := 3, name := x1, value := ⟨#[]⟩ }]) := OwnE.more testS_keeps (w := w7.alloc (.cells #[.int .i64 3, .string x1, .string ⟨#[]⟩] 106)) (own_keep HX1.out (fun g hg => Below.heap_alloc _ _ _ (HX1.out.lt g hg).2)) (fun i hi => testS_keeps _ _ _ _ _ _ (HX2.out i hi) (fun b _ hb => Below.heap_alloc _ _ _ hb) (by simp) (fun _ x _ => x)) rfl ⟨rfl, ⟨Nat.le_trans hbo.1 (by decide), Nat.zero_le _, rfl⟩⟩ Hown8.out Hgrow8.out Hat8.out
       have hA8 : At s br b2 w8 := at_grown (at_alloc Ha7.out _) Hgrow8.out (base_ne HX1.out hbr)
       have hO8 : OffR br w w8 := off_grown (Ho7.out.trans (off_alloc _ _)) Hgrow8.out (fun r hr => (HX1.out.lt r hr).1)
       have HM8 : Hid (M = compLoop s a g (c ++ [{ kind := 3, name := x1 }]) b2) := HM
       have Hc8 := Lib.hid hC8; have Ha8 := Lib.hid hA8; have Ho8 := Lib.hid hO8
       clear hC8 hA8 hO8
       go_roundg g
       case measure => omega
       case rel => exact ⟨b2, c ++ [{ kind := 3, name := x1 }], Hc8, Ha8, by omega, by omega, by omega, by rw [List.length_append, List.length_singleton]; omega, HM8, Ho8⟩
     rw [decide_eq_false h46] at e46
     rw [if_neg h46] at hM
     by_cases h35 : x = 35
     ·have hbz := hxb (by rw [h35]; decide)
      rw [decide_eq_true h35] at e35
      rw [if_pos h35] at hM
      clear e91 h35 h46 hxb
      have hbw : IntKind.i64.wrap ((b : Int) + 1) = (b : Int) + 1 := by rw [IntKind.wrap_i64]; omega
      cases hN : nameP s (b + 1) with
      | error e1 =>
       rw [hN] at hM
       have HM := Lib.hid hM
       clear hM
       go_wp2_with (first | (go_at_call 132; (with_reducible refine (Hnx.out).mono ?_); rintro e w5 ⟨rfl, ha, ho⟩; obtain ⟨c0, c1, cf⟩ := ha.cells; have hs5 : At s br (b + 1) (w5.setCell ⟨br, 1, none⟩ (.int .i64 ((b : Int) + 1))) := ha.set (b := b + 1) (by omega); have ho5 : OffR br w (w5.setCell ⟨br, 1, none⟩ (.int .i64 ((b : Int) + 1))) := (hO.out.trans ho).trans (Off.setCell (Y := fun b => b = br) w5 ⟨br, 1, none⟩ _ rfl); have hc5 := own_off testS_keeps hC.out (ho.trans (Off.setCell (Y := fun b => b = br) w5 ⟨br, 1, none⟩ (.int .i64 ((b : Int) + 1)) rfl)) hbr; have hcc5 := own_off testS_keeps hC.out ho hbr; have HA5 := Lib.hid ha; have HO5 := Lib.hid (hO.out.trans ho); have Hs5 := Lib.hid hs5; have Hos5 := Lib.hid ho5; have Hc5 := Lib.hid hc5; have Hcc5 := Lib.hid hcc5; clear ha ho hs5 ho5 hc5 hcc5) | (go_at_call 197; (with_reducible refine (by have := name_calls s br (b + 1) _ Hs5.out; rw [hN] at this; exact this : Calls _ _ _ _ (PP s br (w5.setCell ⟨br, 1, none⟩ (.int .i64 ((b : Int) + 1))) (.error e1) (fun x v _ => v = .string x))).mono ?_); rintro e w7 ⟨ho7, rfl⟩; have Ho7 := Lib.hid (Hos5.out.trans ho7); clear ho7))
       rw [HM.out]
       exact ⟨rfl, Ho7.out, rfl⟩
      | ok x =>
       obtain ⟨x1, b2⟩ := x
       rw [hN] at hM
       have hbo := name_ok hN (by omega)
       have hb2 : b + 1 < b2 ∧ b2 ≤ s.size := hbo.2
       have HM := Lib.hid hM; have Hb2 := Lib.hid hb2
       clear hM
       go_wp2_with (first | (go_at_call 132; (with_reducible refine (Hnx.out).mono ?_); rintro e w5 ⟨rfl, ha, ho⟩; obtain ⟨c0, c1, cf⟩ := ha.cells; have hs5 : At s br (b + 1) (w5.setCell ⟨br, 1, none⟩ (.int .i64 ((b : Int) + 1))) := ha.set (b := b + 1) (by omega); have ho5 : OffR br w (w5.setCell ⟨br, 1, none⟩ (.int .i64 ((b : Int) + 1))) := (hO.out.trans ho).trans (Off.setCell (Y := fun b => b = br) w5 ⟨br, 1, none⟩ _ rfl); have hc5 := own_off testS_keeps hC.out (ho.trans (Off.setCell (Y := fun b => b = br) w5 ⟨br, 1, none⟩ (.int .i64 ((b : Int) + 1)) rfl)) hbr; have hcc5 := own_off testS_keeps hC.out ho hbr; have HA5 := Lib.hid ha; have HO5 := Lib.hid (hO.out.trans ho); have Hs5 := Lib.hid hs5; have Hos5 := Lib.hid ho5; have Hc5 := Lib.hid hc5; have Hcc5 := Lib.hid hcc5; clear ha ho hs5 ho5 hc5 hcc5) | (go_at_call 197; (with_reducible refine (by have := name_calls s br (b + 1) _ Hs5.out; rw [hN] at this; exact this : Calls _ _ _ _ (PP s br (w5.setCell ⟨br, 1, none⟩ (.int .i64 ((b : Int) + 1))) (.ok (x1, b2)) (fun x v _ => v = .string x))).mono ?_); rintro e w7 ⟨ho7, ⟨v7, rfl, rfl⟩, ha7⟩; have hc7 := own_off testS_keeps Hc5.out ho7 hbr; obtain ⟨xs, hx1, hx2⟩ := hc7.out; have HX1 := Lib.hid hx1; have HX2 := Lib.hid hx2; have Ha7 := Lib.hid ha7; have Ho7 := Lib.hid (Hos5.out.trans ho7); clear ho7 ha7 hc7 hx1 hx2) | (at_builtin; go_loud (refine wpList_append_own_at (w7.alloc (.cells #[.int .i64 2, .string x1, .string ⟨#[]⟩] 106)) rfl _ _ 52 rfl w.heap.size 106 i0 _ 3 40 Tryz.underlying52 hi0 hz0 hz1 hz2 rfl (by decide) (.slice Ac c.length cc) c.length xs rfl (own_keep HX1.out (fun g hg => Below.heap_alloc _ _ _ (HX1.out.lt g hg).2)) ⟨w7.heap.size, 0, none⟩ 1 1 [.int .i64 2, .string x1, .string ⟨#[]⟩] rfl rfl (World.news_of_block (cs := #[.int .i64 2, .string x1, .string ⟨#[]⟩]) (t := 106) (fr := (0, 0)) (heap_alloc_new w7 _)) (by simp [Value.oneCell']) (by simp only [maxLen]; omega) (by omega) (by simp; have := Ho7.out.size; omega) ?_; intro v8 w8 hown8 hgrow8 hnil8 hat8; have Hown8 := Lib.hid hown8; have Hgrow8 := Lib.hid hgrow8; have Hat8 := Lib.hid hat8; clear hown8 hgrow8 hnil8 hat8)))
       try simp only
       have hC8 : OwnE testS 106 3 w.heap.size br w8 v8 (c ++ [{ kind := 2, name := x1, value := ⟨#[]⟩ }]) := OwnE.more testS_keeps (w := w7.alloc (.cells #[.int .i64 2, .string x1, .string ⟨#[]⟩] 106)) (own_keep HX1.out (fun g hg => Below.heap_alloc _ _ _ (HX1.out.lt g hg).2)) (fun i hi => testS_keeps _ _ _ _ _ _ (HX2.out i hi) (fun b _ hb => Below.heap_alloc _ _ _ hb) (by simp) (fun _ x _ => x)) rfl ⟨rfl, ⟨Nat.le_trans hbo.1 (by decide), Nat.zero_le _, rfl⟩⟩ Hown8.out Hgrow8.out Hat8.out
       have hA8 : At s br b2 w8 := at_grown (at_alloc Ha7.out _) Hgrow8.out (base_ne HX1.out hbr)
       have hO8 : OffR br w w8 := off_grown (Ho7.out.trans (off_alloc _ _)) Hgrow8.out (fun r hr => (HX1.out.lt r hr).1)
       have HM8 : Hid (M = compLoop s a g (c ++ [{ kind := 2, name := x1 }]) b2) := HM
       have Hc8 := Lib.hid hC8; have Ha8 := Lib.hid hA8; have Ho8 := Lib.hid hO8
       clear hC8 hA8 hO8
       go_roundg g
       case measure => omega
       case rel => exact ⟨b2, c ++ [{ kind := 2, name := x1 }], Hc8, Ha8, by omega, by omega, by omega, by rw [List.length_append, List.length_singleton]; omega, HM8, Ho8⟩
     rw [decide_eq_false h35] at e35
     rw [if_neg h35] at hM
     by_cases h91 : x = 91
     ·have hbz := hxb (by rw [h91]; decide)
      rw [decide_eq_true h91] at e91
      rw [if_pos h91] at hM
      clear h91 h35 h46 hxb
      have hbw : IntKind.i64.wrap ((b : Int) + 1) = (b : Int) + 1 := by rw [IntKind.wrap_i64]; omega
      cases hN : bracketsP s (b + 1) with
      | error e1 =>
       rw [hN] at hM
       have HM := Lib.hid hM
       clear hM
       go_wp2_with (first | (go_at_call 132; (with_reducible refine (Hnx.out).mono ?_); rintro e w5 ⟨rfl, ha, ho⟩; obtain ⟨c0, c1, cf⟩ := ha.cells; have hs5 : At s br (b + 1) (w5.setCell ⟨br, 1, none⟩ (.int .i64 ((b : Int) + 1))) := ha.set (b := b + 1) (by omega); have ho5 : OffR br w (w5.setCell ⟨br, 1, none⟩ (.int .i64 ((b : Int) + 1))) := (hO.out.trans ho).trans (Off.setCell (Y := fun b => b = br) w5 ⟨br, 1, none⟩ _ rfl); have hc5 := own_off testS_keeps hC.out (ho.trans (Off.setCell (Y := fun b => b = br) w5 ⟨br, 1, none⟩ (.int .i64 ((b : Int) + 1)) rfl)) hbr; have hcc5 := own_off testS_keeps hC.out ho hbr; have HA5 := Lib.hid ha; have HO5 := Lib.hid (hO.out.trans ho); have Hs5 := Lib.hid hs5; have Hos5 := Lib.hid ho5; have Hc5 := Lib.hid hc5; have Hcc5 := Lib.hid hcc5; clear ha ho hs5 ho5 hc5 hcc5) | (go_at_call 198; (with_reducible refine (by have := brackets_calls s br (b + 1) _ Hs5.out; rw [hN] at this; exact this : Calls _ _ _ _ (PP s br (w5.setCell ⟨br, 1, none⟩ (.int .i64 ((b : Int) + 1))) (.error e1) (fun x v _ => v = tsV x))).mono ?_); rintro e w7 ⟨ho7, rfl⟩; have Ho7 := Lib.hid (Hos5.out.trans ho7); clear ho7))
       rw [HM.out]
       exact ⟨rfl, Ho7.out, rfl⟩
      | ok x =>
       obtain ⟨x1, b2⟩ := x
       rw [hN] at hM
       have hbo := brackets_ok hN (by omega)
       have hb2 : b + 1 < b2 ∧ b2 ≤ s.size := hbo.2
       have HM := Lib.hid hM; have Hb2 := Lib.hid hb2
       clear hM
       go_wp2_with (first | (go_at_call 132; (with_reducible refine (Hnx.out).mono ?_); rintro e w5 ⟨rfl, ha, ho⟩; obtain ⟨c0, c1, cf⟩ := ha.cells; have hs5 : At s br (b + 1) (w5.setCell ⟨br, 1, none⟩ (.int .i64 ((b : Int) + 1))) := ha.set (b := b + 1) (by omega); have ho5 : OffR br w (w5.setCell ⟨br, 1, none⟩ (.int .i64 ((b : Int) + 1))) := (hO.out.trans ho).trans (Off.setCell (Y := fun b => b = br) w5 ⟨br, 1, none⟩ _ rfl); have hc5 := own_off testS_keeps hC.out (ho.trans (Off.setCell (Y := fun b => b = br) w5 ⟨br, 1, none⟩ (.int .i64 ((b : Int) + 1)) rfl)) hbr; have hcc5 := own_off testS_keeps hC.out ho hbr; have HA5 := Lib.hid ha; have HO5 := Lib.hid (hO.out.trans ho); have Hs5 := Lib.hid hs5; have Hos5 := Lib.hid ho5; have Hc5 := Lib.hid hc5; have Hcc5 := Lib.hid hcc5; clear ha ho hs5 ho5 hc5 hcc5) | (go_at_call 198; (with_reducible refine (by have := brackets_calls s br (b + 1) _ Hs5.out; rw [hN] at this; exact this : Calls _ _ _ _ (PP s br (w5.setCell ⟨br, 1, none⟩ (.int .i64 ((b : Int) + 1))) (.ok (x1, b2)) (fun x v _ => v = tsV x))).mono ?_); rintro e w7 ⟨ho7, ⟨v7, rfl, rfl⟩, ha7⟩; have hc7 := own_off testS_keeps Hc5.out ho7 hbr; obtain ⟨xs, hx1, hx2⟩ := hc7.out; have HX1 := Lib.hid hx1; have HX2 := Lib.hid hx2; have Ha7 := Lib.hid ha7; have Ho7 := Lib.hid (Hos5.out.trans ho7); clear ho7 ha7 hc7 hx1 hx2) | (at_builtin; go_loud (refine wpList_append_own_at (w7.alloc (.cells #[.int .i64 x1.kind, .string x1.name, .string x1.value] 106)) rfl _ _ 52 rfl w.heap.size 106 i0 _ 3 40 Tryz.underlying52 hi0 hz0 hz1 hz2 rfl (by decide) (.slice Ac c.length cc) c.length xs rfl (own_keep HX1.out (fun g hg => Below.heap_alloc _ _ _ (HX1.out.lt g hg).2)) ⟨w7.heap.size, 0, none⟩ 1 1 [.int .i64 x1.kind, .string x1.name, .string x1.value] rfl rfl (World.news_of_block (cs := #[.int .i64 x1.kind, .string x1.name, .string x1.value]) (t := 106) (fr := (0, 0)) (heap_alloc_new w7 _)) (by simp [Value.oneCell']) (by simp only [maxLen]; omega) (by omega) (by simp; have := Ho7.out.size; omega) ?_; intro v8 w8 hown8 hgrow8 hnil8 hat8; have Hown8 := Lib.hid hown8; have Hgrow8 := Lib.hid hgrow8; have Hat8 := Lib.hid hat8; clear hown8 hgrow8 hnil8 hat8)))
       try simp only
       have hC8 : OwnE testS 106 3 w.heap.size br w8 v8 (c ++ [x1]) := OwnE.more testS_keeps (w := w7.alloc (.cells #[.int .i64 x1.kind, .string x1.name, .string x1.value] 106)) (own_keep HX1.out (fun g hg => Below.heap_alloc _ _ _ (HX1.out.lt g hg).2)) (fun i hi => testS_keeps _ _ _ _ _ _ (HX2.out i hi) (fun b _ hb => Below.heap_alloc _ _ _ hb) (by simp) (fun _ x _ => x)) rfl ⟨rfl, hbo.1⟩ Hown8.out Hgrow8.out Hat8.out
       have hA8 : At s br b2 w8 := at_grown (at_alloc Ha7.out _) Hgrow8.out (base_ne HX1.out hbr)
       have hO8 : OffR br w w8 := off_grown (Ho7.out.trans (off_alloc _ _)) Hgrow8.out (fun r hr => (HX1.out.lt r hr).1)
       have HM8 : Hid (M = compLoop s a g (c ++ [x1]) b2) := HM
       have Hc8 := Lib.hid hC8; have Ha8 := Lib.hid hA8; have Ho8 := Lib.hid hO8
       clear hC8 hA8 hO8
       go_roundg g
       case measure => omega
       case rel => exact ⟨b2, c ++ [x1], Hc8, Ha8, by omega, by omega, by omega, by rw [List.length_append, List.length_singleton]; omega, HM8, Ho8⟩
     rw [decide_eq_false h91] at e91
     rw [if_neg h91] at hM
     clear h91 h35 h46 hxb
     by_cases hba : b = a
     ·rw [if_pos hba] at hM
      have hq : ((b : Int) == (a : Int)) = true := by rw [beq_iff_eq, hba]
      have HM := Lib.hid hM
      clear hM hba
      go_wp2_with (first | (go_at_call 132; (with_reducible refine (Hnx.out).mono ?_); rintro e w5 ⟨rfl, ha, ho⟩; obtain ⟨c0, c1, cf⟩ := ha.cells; have hcc5 := own_off testS_keeps hC.out ho hbr; have HA5 := Lib.hid ha; have HO5 := Lib.hid (hO.out.trans ho); have Hcc5 := Lib.hid hcc5; clear ha ho hcc5) | (go_at_call 133; (with_reducible refine (give_calls s br b w5 HA5.out).mono ?_); rintro e w7 ⟨rfl, rfl⟩))
      rw [HM.out]
      exact ⟨rfl, HO5.out, rfl⟩
     ·rw [if_neg hba] at hM
      have hq : ((b : Int) == (a : Int)) = false := by rw [beq_eq_false_iff_ne]; omega
      have HM := Lib.hid hM
      clear hM hba
      go_wp2_with (go_at_call 132; (with_reducible refine (Hnx.out).mono ?_); rintro e w5 ⟨rfl, ha, ho⟩; obtain ⟨c0, c1, cf⟩ := ha.cells; have hcc5 := own_off testS_keeps hC.out ho hbr; have HA5 := Lib.hid ha; have HO5 := Lib.hid (hO.out.trans ho); have Hcc5 := Lib.hid hcc5; clear ha ho hcc5)
      go_ret
      rw [HM.out]
      exact ⟨HO5.out, ⟨_, rfl, Hcc5.out.rd testS_keeps hbr⟩, HA5.out⟩
end Go.Proofs.YtmbhkkophkccbaaGreat.Pa
end
