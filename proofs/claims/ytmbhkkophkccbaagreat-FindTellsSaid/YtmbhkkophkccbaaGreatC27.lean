import Derived.Deep.RegionHeld3
import Derived.Deep.CutBlock
import Derived.Test.YtmbhkkophkccbaaGreatC25
import Derived.Test.YtmbhkkophkccbaaGreatC17
import Derived.Test.YtmbhkkophkccbaaGreatC11
import Derived.Test.YtmbhkkophkccbaaGreatC24
section
namespace Go.Proofs.YtmbhkkophkccbaaGreat.R10
open Go Go.RowKit Go.Proofs.YtmbhkkophkccbaaGreat.Seq WS FS Mem Rd Shapes Word FFam Fn
set_option linter.unusedVariables false
set_option linter.unusedSimpArgs false
theorem find_hit {l : List Av} {s : ByteArray} {k : Nat} (hk : k < l.length) (h : l[k].name = s) (hn : ∀ j (hj : j < l.length), j < k → l[j].name ≠ s) : valA l s = some l[k].value := by
 unfold valA
 have : l.find? (fun a => decide (a.name = s)) = some l[k] := by
  rw [List.find?_eq_some_iff_getElem]
  exact ⟨decide_eq_true h, k, hk, rfl, fun j hj => by simpa using hn j (by omega) hj⟩
 rw [this]
 rfl
theorem find_miss {l : List Av} {s : ByteArray} (hn : ∀ j (hj : j < l.length), l[j].name ≠ s) : valA l s = none := by
 unfold valA
 have : l.find? (fun a => decide (a.name = s)) = none := by
  rw [List.find?_eq_none]
  intro a ha
  obtain ⟨j, hj, rfl⟩ := List.mem_iff_getElem.1 ha
  simpa using hn j hj
 rw [this]
 rfl
set_option maxRecDepth 100000 in
set_option maxHeartbeats 4000000 in
theorem attr_calls (w : World) (n : Nd) (va vk : Value) (h : RdL attrE 2 w.heap.size w va n.attrs) (s : ByteArray) : Calls Tryz.prog 127 #[ndV n va vk, .string s] w (AtPost n.attrs s w) := by
 obtain ⟨w0, hw0⟩ : ∃ w0, w.alloc (.cells (ndC n va vk) 58) = w0 := ⟨_, rfl⟩
 have hb0 : Below w.heap.size w w0 := by rw [← hw0]; exact (Below.refl _ _).alloc (Nat.le_refl _) _
 have q0 : w0.heap[w.heap.size]? = some (.cells (ndC n va vk) 58 (0, 0)) := by rw [← hw0]; exact World.alloc_heap_new w _
 have x3 : w0.cell? ⟨w.heap.size, 3, none⟩ = some va := (cell_of_row _ _ _ _ _ _ q0).trans rfl
 have hr := h.below attrE_keeps hb0 (Nat.le_refl _)
 obtain ⟨Aa, ca, rfl, hl0, hc0, _⟩ := h.form
 simp only [maxLen] at hc0
 have Hr := Lib.hid hr; have Hw0 := Lib.hid hw0; have Hb0 := Lib.hid hb0
 clear hr hw0 hb0 h q0
 generalize n.attrs = l at *
 go_enter Tryz.func127, Tryz.ntmps127
 go_upto_region 1 with fail
 rw [Hw0.out]
 go_wp2_with fail
 go_loop [6] (fun i => ∃ k : Nat, k ≤ l.length ∧ i = .int .i64 k ∧ Hid (∀ j (hj : j < l.length), j < k → l[j].name ≠ s)) (fun i => l.length - (intOf i).toNat)
 case atStart => exact ⟨0, Nat.zero_le _, rfl, Lib.hid (fun j _ hj => absurd hj (Nat.not_lt_zero _))⟩
 case round =>
  obtain ⟨k, hk, rfl, hn⟩ := hrel
  by_cases hlt : k < l.length
  ·obtain ⟨b, o, rfl, hbl, g0, g1, m0, m1⟩ := FAttr.attr_at Hr.out hlt
   have hsb := FSame.str_beq l[k].name s
   by_cases e : l[k].name = s
   ·have hd : (l[k].name.toList == s.toList) = true := by rw [hsb]; exact decide_eq_true e
    have hv := find_hit hlt e hn.out
    have Hv := Lib.hid hv
    clear hv e hsb hn m0 m1
    generalize l[k] = x at *
    go_wp2_with fail
    go_ret2
    exact ⟨ret_sb (by rw [Hv.out]; rfl) (by rw [Hv.out]; rfl), Hb0.out⟩
   ·have hd : (l[k].name.toList == s.toList) = false := by rw [hsb]; exact decide_eq_false e
    have E := Lib.hid e
    have E2 : Hid (∀ j (hj : j < l.length), j < k + 1 → l[j].name ≠ s) := Lib.hid (fun j hj hjk => by
     rcases Nat.lt_or_ge j k with h1 | h1
     ·exact hn.out j hj h1
     ·obtain rfl : j = k := by omega
      exact E.out)
    clear e hsb m0 m1 E
    generalize l[k] = x at *
    go_wp2_with fail
    go_round
    case rel => exact ⟨k + 1, by omega, by go_num, E2⟩
    case measure => simp [intOf]; omega
  ·have hv := find_miss (fun j hj => hn.out j hj (by omega))
   have Hv := Lib.hid hv
   clear hv hn
   go_wp2_with fail
   go_ret2
   exact ⟨ret_sb (by rw [Hv.out]; rfl) (by rw [Hv.out]; rfl), Hb0.out⟩
theorem rts_cells {w : World} {b : Nat} {t : Tst} (h : w.heap[b]? = some (.cells (tsC t) 117 (0, 0))) : w.cell? ⟨b, 0, none⟩ = some (.int .i64 t.kind) ∧ w.cell? ⟨b, 1, none⟩ = some (.string t.name) ∧ w.cell? ⟨b, 2, none⟩ = some (.string t.value) :=
 ⟨(cell_of_row _ _ _ _ _ _ h).trans rfl, (cell_of_row _ _ _ _ _ _ h).trans rfl, (cell_of_row _ _ _ _ _ _ h).trans rfl⟩
theorem rnd_cells {w : World} {b : Nat} {n : Nd} {va vk : Value} (h : w.heap[b]? = some (.cells (ndC n va vk) 58 (0, 0))) : w.cell? ⟨b, 0, none⟩ = some (.int .i64 n.kind) ∧ w.cell? ⟨b, 1, none⟩ = some (.string n.name) ∧ w.cell? ⟨b, 2, none⟩ = some (.string n.text) ∧ w.cell? ⟨b, 3, none⟩ = some va ∧ w.cell? ⟨b, 4, none⟩ = some (.int .i64 n.parent) ∧ w.cell? ⟨b, 5, none⟩ = some vk :=
 ⟨(cell_of_row _ _ _ _ _ _ h).trans rfl, (cell_of_row _ _ _ _ _ _ h).trans rfl, (cell_of_row _ _ _ _ _ _ h).trans rfl, (cell_of_row _ _ _ _ _ _ h).trans rfl, (cell_of_row _ _ _ _ _ _ h).trans rfl, (cell_of_row _ _ _ _ _ _ h).trans rfl⟩
def hasO (o : Option ByteArray) (x : List UInt8) : Bool := match o with | some v => (words v.data.toList).contains x | none => false
def soO (k : Int) (nm tn tv : ByteArray) (o1 o2 o3 : Option ByteArray) : Bool :=
 if k = 1 then decide (nm.data.map foldB = tn.data.map foldB) else if k = 2 then decide (o1 = some tn) else if k = 3 then hasO o2 tn.data.toList else if k = 4 then o3.isSome else if k = 5 then decide (o3 = some tv) else false
theorem soB_eq (n : Nd) (t : Tst) : soB n t = soO t.kind n.name t.name t.value (valA n.attrs idS) (valA n.attrs classS) (valA n.attrs t.name) := rfl
set_option maxRecDepth 100000 in
set_option maxHeartbeats 8000000 in
theorem so_calls (w : World) (n : Nd) (t : Tst) (va vk : Value) (h : RdL attrE 2 w.heap.size w va n.attrs) (hn : Sm n) (ht : t.name.size ≤ 1000) : Calls Tryz.prog 58 #[ndV n va vk, tsV t] w (SoPost (soB n t) w) := by
 obtain ⟨w0, hw0⟩ : ∃ w0, (w.alloc (.cells (ndC n va vk) 58)).alloc (.cells (tsC t) 117) = w0 := ⟨_, rfl⟩
 have hb0 : Below w.heap.size w w0 := by rw [← hw0]; exact ((Below.refl _ _).alloc (Nat.le_refl _) _).alloc (by simp) _
 have q0 : w0.heap[w.heap.size]? = some (.cells (ndC n va vk) 58 (0, 0)) := by rw [← hw0]; exact heap_old (World.alloc_heap_new w _)
 have q1 : w0.heap[w.heap.size + 1]? = some (.cells (tsC t) 117 (0, 0)) := by rw [← hw0]; exact heap_new (by simp)
 have hcl := fun w' (hb : Below w0.heap.size w0 w') => And.intro (rnd_cells ((hb.block _ (lt_heap q0)).trans q0)) (rts_cells ((hb.block _ (lt_heap q1)).trans q1))
 have hat := fun w' (hb : Below w0.heap.size w0 w') s => attr_calls w' n va vk ((h.below attrE_keeps (w' := w') (bthen hb0 hb) (Nat.le_refl _)).mono attrE_keeps (bthen hb0 hb).size) s
 unfold AtPost at hat
 obtain ⟨Aa, ca, rfl, _, _, _⟩ := h.form
 have hid : ∀ v, valA n.attrs classS = some v → v.size ≤ 1000 := fun v hv => by
  obtain ⟨a, ha, rfl⟩ := valA_mem hv
  exact hn.2 a ha
 have hnm := hn.1
 have hf1 := fun w => R2.Fold_calls n.name hnm w
 have hf2 := fun w => R2.Fold_calls t.name ht w
 obtain ⟨x, y⟩ := hcl w0 (Below.refl _ _)
 obtain ⟨x0, x1, x2, x3, x4, x5⟩ := x
 obtain ⟨y0, y1, y2⟩ := y
 obtain ⟨o1, ho1⟩ : ∃ o, o = valA n.attrs idS := ⟨_, rfl⟩
 obtain ⟨o2, ho2⟩ : ∃ o, o = valA n.attrs classS := ⟨_, rfl⟩
 obtain ⟨o3, ho3⟩ : ∃ o, o = valA n.attrs t.name := ⟨_, rfl⟩
 have ha1 := fun w' hb => hat w' hb ⟨#[105, 100]⟩
 have ha2 := fun w' hb => hat w' hb ⟨#[99, 108, 97, 115, 115]⟩
 have ha3 := fun w' hb => hat w' hb t.name
 simp only [show valA n.attrs ⟨#[105, 100]⟩ = o1 from ho1.symm] at ha1
 simp only [show valA n.attrs ⟨#[99, 108, 97, 115, 115]⟩ = o2 from ho2.symm] at ha2
 simp only [← ho3] at ha3
 rw [← ho2] at hid
 rw [soB_eq, ← ho1, ← ho2, ← ho3]
 have Hw0 := Lib.hid hw0; have Hb0 := Lib.hid hb0; have Hcl := Lib.hid hcl; have Ha1 := Lib.hid ha1; have Ha2 := Lib.hid ha2; have Ha3 := Lib.hid ha3; have Hf1 := Lib.hid hf1; have Hf2 := Lib.hid hf2; have Hid := Lib.hid hid
 clear hw0 hb0 hcl ha1 ha2 ha3 hf1 hf2 hid hat ho1 ho2 ho3 q0 q1 h hn ht hnm
 obtain ⟨kd, nm, vl⟩ := t
 simp only at *
 go_enter Tryz.func58, Tryz.ntmps58
 go_upto_region 1 with fail
 rw [Hw0.out]
 go_upto_region 5 with (first | (go_at_call 127; first | ((with_reducible refine (Ha1.out _ (Below.refl _ _)).mono ?_); rintro e w5 ⟨rfl, hb5⟩; obtain ⟨p, q⟩ := Hcl.out _ hb5; obtain ⟨p0, p1, p2, p3, p4, p5⟩ := p; obtain ⟨q0, q1, q2⟩ := q; have Hb5 := Lib.hid hb5; clear hb5) | ((with_reducible refine (Ha2.out _ Hb5.out).mono ?_); rintro e w6 ⟨rfl, hb6⟩; have hb6' := bthen Hb5.out hb6; obtain ⟨r, s⟩ := Hcl.out _ hb6'; obtain ⟨r0, r1, r2, r3, r4, r5⟩ := r; obtain ⟨s0, s1, s2⟩ := s; have Hb6 := Lib.hid hb6'; clear hb6 hb6') | ((with_reducible refine (Ha3.out _ Hb6.out).mono ?_); rintro e w7 ⟨rfl, hb7⟩; have hb7' := bthen Hb6.out hb7; obtain ⟨r, s⟩ := Hcl.out _ hb7'; obtain ⟨c0, c1, c2, c3, c4, c5⟩ := r; obtain ⟨d0, d1, d2⟩ := s; have Hb7 := Lib.hid hb7'; clear hb7 hb7')))
 by_cases k1 : kd = 1
 ·subst k1
  have e : soO 1 n.name nm vl o1 o2 o3 = decide ((⟨n.name.data.map foldB⟩ : ByteArray) = ⟨nm.data.map foldB⟩) := by
   unfold soO
   rw [if_pos rfl]
   by_cases h : n.name.data.map foldB = nm.data.map foldB
   ·rw [decide_eq_true h, decide_eq_true (by rw [h])]
   ·rw [decide_eq_false h, decide_eq_false (fun x => h (by injection x))]
  obtain ⟨F1, hF1⟩ : ∃ F : ByteArray, F = ⟨n.name.data.map foldB⟩ := ⟨_, rfl⟩
  obtain ⟨F2, hF2⟩ : ∃ F : ByteArray, F = ⟨nm.data.map foldB⟩ := ⟨_, rfl⟩
  have hf1 := Hf1.out
  have hf2 := Hf2.out
  simp only [← hF1] at hf1
  simp only [← hF2] at hf2
  rw [← hF1, ← hF2] at e
  have hsb := FSame.str_beq F1 F2
  have HF1 := Lib.hid hf1; have HF2 := Lib.hid hf2
  clear hf1 hf2 hF1 hF2 Hf1 Hf2
  obtain ⟨Y, hY⟩ : ∃ Y, Y = decide (F1 = F2) := ⟨_, rfl⟩
  rw [← hY] at hsb e
  have E := Lib.hid e
  clear hY e
  go_upto_region 6 with fail
  go_region_held3 (fun w' => w'.cell? ⟨w.heap.size, 1, none⟩ = some (.string n.name) ∧ w'.cell? ⟨w.heap.size + 1, 1, none⟩ = some (.string nm))
   (first | exact ⟨c1, d1⟩ | exact y8 | exact y9 | go_keep)
   (first | (go_at_call 128; (with_reducible refine (HF1.out _).mono ?_); rintro e w8 ⟨rfl, hb8⟩; have hb8' : Below w0.heap.size w0 w8 := (by first | exact bthen Hb7.out.drew hb8 | exact bthen Hb7.out hb8); have y8 := And.intro (Hcl.out _ hb8').1.2.1 (Hcl.out _ hb8').2.2.1; have Hb8 := Lib.hid hb8'; clear hb8 hb8') | (go_at_call 128; (with_reducible refine (HF2.out _).mono ?_); rintro e w9 ⟨rfl, hb9⟩; have hb9' := bthen Hb8.out hb9; have y9 := And.intro (Hcl.out _ hb9').1.2.1 (Hcl.out _ hb9').2.2.1; have Hb9 := Lib.hid hb9'; clear hb9 hb9'))
  go_wp2_with fail
  go_ret
  exact ⟨by rw [E.out]; first | rfl | exact ret_bool hsb | exact ret_bool rfl | exact ret_bool (by simp), bthen Hb0.out Hb9.out⟩
 ·have q1 : (kd == 1) = false := by rw [beq_eq_false_iff_ne]; exact k1
  by_cases k2 : kd = 2
  ·subst k2
   have e : soO 2 n.name nm vl o1 o2 o3 = decide (o1 = some nm) := by unfold soO; rw [if_neg (by decide), if_pos rfl]
   clear k1
   cases o1 with
   | none =>
    have E := Lib.hid e
    clear e
    go_wp2_with fail
    go_ret
    exact ⟨by rw [E.out]; first | rfl | exact ret_bool hsb | exact ret_bool rfl | exact ret_bool (by simp), bthen Hb0.out Hb7.out⟩
   | some v1 =>
    have hsb := FSame.str_beq v1 nm
    have ho : decide (some v1 = some nm) = decide (v1 = nm) := opt_bool rfl nm
    rw [ho] at e
    obtain ⟨Y, hY⟩ : ∃ Y, Y = decide (v1 = nm) := ⟨_, rfl⟩
    rw [← hY] at hsb e
    have E := Lib.hid e
    clear hY ho e
    go_wp2_with fail
    go_ret
    exact ⟨by rw [E.out]; first | rfl | exact ret_bool hsb | exact ret_bool rfl | exact ret_bool (by simp), bthen Hb0.out Hb7.out⟩
  ·have q2 : (kd == 2) = false := by rw [beq_eq_false_iff_ne]; exact k2
   by_cases k3 : kd = 3
   ·subst k3
    have e : soO 3 n.name nm vl o1 o2 o3 = hasO o2 nm.data.toList := by unfold soO; rw [if_neg (by decide), if_neg (by decide), if_pos rfl]
    clear k1 k2
    cases o2 with
    | none =>
     have E := Lib.hid e
     clear e
     go_wp2_with fail
     go_ret
     exact ⟨by rw [E.out]; first | rfl | exact ret_bool hsb | exact ret_bool rfl | exact ret_bool (by simp), bthen Hb0.out Hb7.out⟩
    | some v2 =>
     have hh := R2.Has_calls v2 nm (Hid.out v2 rfl) w7
     unfold hasO at e
     simp only at e
     generalize (words v2.data.toList).contains nm.data.toList = Y at *
     have Hh := Lib.hid hh; have E := Lib.hid e
     clear hh e
     go_wp2_with (go_at_call 129; (with_reducible refine (Hh.out).mono ?_); rintro e w8 ⟨rfl, hb8⟩; have Hb8 := Lib.hid hb8; clear hb8)
     go_ret
     exact ⟨by rw [E.out]; first | rfl | exact ret_bool hsb | exact ret_bool rfl | exact ret_bool (by simp), bthen Hb0.out (bthen Hb7.out Hb8.out)⟩
   ·have q3 : (kd == 3) = false := by rw [beq_eq_false_iff_ne]; exact k3
    by_cases k4 : kd = 4
    ·subst k4
     have e : soO 4 n.name nm vl o1 o2 o3 = o3.isSome := by unfold soO; rw [if_neg (by decide), if_neg (by decide), if_neg (by decide), if_pos rfl]
     have E := Lib.hid e
     clear e k1 k2 k3
     go_wp2_with fail
     go_ret
     exact ⟨by rw [E.out]; first | rfl | exact ret_bool hsb | exact ret_bool rfl | exact ret_bool (by simp), bthen Hb0.out Hb7.out⟩
    ·have q4 : (kd == 4) = false := by rw [beq_eq_false_iff_ne]; exact k4
     by_cases k5 : kd = 5
     ·subst k5
      have e : soO 5 n.name nm vl o1 o2 o3 = decide (o3 = some vl) := by unfold soO; rw [if_neg (by decide), if_neg (by decide), if_neg (by decide), if_neg (by decide), if_pos rfl]
      clear k1 k2 k3 k4
      cases o3 with
      | none =>
       have E := Lib.hid e
       clear e
       go_wp2_with fail
       go_ret
       exact ⟨by rw [E.out]; first | rfl | exact ret_bool hsb | exact ret_bool rfl | exact ret_bool (by simp), bthen Hb0.out Hb7.out⟩
      | some v3 =>
       have hsb := FSame.str_beq v3 vl
       have ho : decide (some v3 = some vl) = decide (v3 = vl) := opt_bool rfl vl
       rw [ho] at e
       obtain ⟨Y, hY⟩ : ∃ Y, Y = decide (v3 = vl) := ⟨_, rfl⟩
       rw [← hY] at hsb e
       have E := Lib.hid e
       clear hY ho e
       go_wp2_with fail
       go_ret
       exact ⟨by rw [E.out]; first | rfl | exact ret_bool hsb | exact ret_bool rfl | exact ret_bool (by simp), bthen Hb0.out Hb7.out⟩
     ·have q5 : (kd == 5) = false := by rw [beq_eq_false_iff_ne]; exact k5
      have e : soO kd n.name nm vl o1 o2 o3 = false := by unfold soO; rw [if_neg k1, if_neg k2, if_neg k3, if_neg k4, if_neg k5]
      have E := Lib.hid e
      clear e k1 k2 k3 k4 k5
      go_wp2_with fail
      go_ret
      exact ⟨by rw [E.out]; first | rfl | exact ret_bool hsb | exact ret_bool rfl | exact ret_bool (by simp), bthen Hb0.out Hb7.out⟩
end Go.Proofs.YtmbhkkophkccbaaGreat.R10
end
section
namespace Go.Proofs.YtmbhkkophkccbaaGreat.R10
open Go Go.RowKit Go.Proofs.YtmbhkkophkccbaaGreat.Seq WS FS Mem Rd Shapes Word FFam Fn
set_option linter.unusedVariables false
set_option linter.unusedSimpArgs false
set_option maxRecDepth 100000 in
set_option maxHeartbeats 8000000 in
theorem Fits_calls (w : World) (n : Nd) (va vk v : Value) (c : List Tst) (h : RdL attrE 2 w.heap.size w va n.attrs) (hc : RdL testE 3 w.heap.size w v c) (hn : Sm n) (ht : SmC c) :
  Calls Tryz.prog 26 #[ndV n va vk, v] w (SoPost (fitsC n c) w) := by
 obtain ⟨w0, hw0⟩ : ∃ w0, w.alloc (.cells (ndC n va vk) 58) = w0 := ⟨_, rfl⟩
 have hb0 : Below w.heap.size w w0 := by rw [← hw0]; exact (Below.refl _ _).alloc (Nat.le_refl _) _
 have q0 : w0.heap[w.heap.size]? = some (.cells (ndC n va vk) 58 (0, 0)) := by rw [← hw0]; exact World.alloc_heap_new w _
 have hcl := fun w' (hb : Below w0.heap.size w0 w') => rnd_cells ((hb.block _ (lt_heap q0)).trans q0)
 have hso := fun w' (hb : Below w0.heap.size w0 w') (t : Tst) (ht : t.name.size ≤ 1000) => so_calls w' n t va vk ((h.below attrE_keeps (w' := w') (bthen hb0 hb) (Nat.le_refl _)).mono attrE_keeps (bthen hb0 hb).size) hn ht
 unfold SoPost at hso
 have hrc := fun w' (hb : Below w0.heap.size w0 w') => hc.below testE_keeps (w' := w') (bthen hb0 hb) (Nat.le_refl _)
 obtain ⟨Aa, ca, rfl, _, _, _⟩ := h.form
 obtain ⟨Ac, cc, rfl, hlc, hcc, _⟩ := hc.form
 simp only [maxLen] at hcc
 have hfc : fitsC n c = (decide (n.kind = 1) && c.all (soB n)) := rfl
 have Hw0 := Lib.hid hw0; have Hb0 := Lib.hid hb0; have Hcl := Lib.hid hcl; have Hso := Lib.hid hso; have Hrc := Lib.hid hrc; have Hfc := Lib.hid hfc; have Ht := Lib.hid ht
 clear hw0 hb0 hcl hso hrc hfc q0 h hn ht hc
 go_enter Tryz.func26, Tryz.ntmps26
 go_upto_region 1 with fail
 rw [Hw0.out]
 go_wp2_with fail
 go_loopw [5] (fun i wr => ∃ k : Nat, k ≤ c.length ∧ i = .int .i64 k ∧ Hid ((c.take k).all (soB n) = true) ∧ Hid (Below w0.heap.size w0 wr)) (fun i _ => c.length - (intOf i).toNat)
 case atStart => exact ⟨0, Nat.zero_le _, rfl, Lib.hid rfl, Lib.hid (Below.refl _ _)⟩
 case round =>
  obtain ⟨k, hk, rfl, hall, hb⟩ := hrel
  by_cases hlt : k < c.length
  ·obtain ⟨wo, rfl⟩ : ∃ wo : World, wo = wr := ⟨_, rfl⟩
   obtain ⟨b, o, rfl, _, g0, g1, g2, m0, m1, m2⟩ := test_at (Hrc.out wo hb.out) hlt
   have hts := Ht.out c[k] (List.getElem_mem hlt)
   have htk : c.take (k + 1) = c.take k ++ [c[k]] := List.take_succ_eq_append_getElem hlt
   have hso := fun w' (hx : Below wo.heap.size wo w') => Hso.out w' (bthen hb.out hx) c[k] hts
   have hno : soB n c[k] = false → fitsC n c = false := fun hx => by
    rw [Hfc.out]
    have : c.all (soB n) = false := by
     cases ha : c.all (soB n) with
     | false => rfl
     | true => rw [List.all_eq_true.1 ha _ (List.getElem_mem hlt)] at hx; cases hx
    rw [this, Bool.and_false]
   have hk0 : (0 : Int) ≤ (k : Int) := by omega
   have hlt0 : (k : Int) < (c.length : Int) := by omega
   have hx := Hcl.out wo hb.out
   have Hb := Lib.hid hb.out; have Htk := Lib.hid htk; have Hno := Lib.hid hno
   have hS := fun w' (hx : Below wo.heap.size wo w') => And.intro (Hcl.out w' (bthen hb.out hx)) (⟨cell_grow hx g0, cell_grow hx g1, cell_grow hx g2⟩ : w'.cell? ⟨b, o + k * 3, none⟩ = some (.int .i64 c[k].kind) ∧ w'.cell? ⟨b, o + k * 3 + 1, none⟩ = some (.string c[k].name) ∧ w'.cell? ⟨b, o + k * 3 + 2, none⟩ = some (.string c[k].value))
   clear hb htk hno hts m0 m1 m2 g0 g1 g2 hx
   generalize c[k] = t at *
   obtain ⟨Y, hY⟩ : ∃ Y, Y = soB n t := ⟨_, rfl⟩
   rw [← hY] at Hno
   simp only [← hY] at hso
   have HY := Lib.hid hY; have Hs := Lib.hid hso; have HS := Lib.hid hS
   clear hY hso hS
   cases Y
   all_goals
    go_upto_region 4 with fail
    go_region_held3 (fun w' => (w'.cell? ⟨w.heap.size, 0, none⟩ = some (.int .i64 n.kind) ∧ w'.cell? ⟨w.heap.size, 1, none⟩ = some (.string n.name) ∧ w'.cell? ⟨w.heap.size, 2, none⟩ = some (.string n.text) ∧ w'.cell? ⟨w.heap.size, 3, none⟩ = some (.slice Aa n.attrs.length ca) ∧ w'.cell? ⟨w.heap.size, 4, none⟩ = some (.int .i64 n.parent) ∧ w'.cell? ⟨w.heap.size, 5, none⟩ = some vk) ∧ w'.cell? ⟨b, o + k * 3, none⟩ = some (.int .i64 t.kind) ∧ w'.cell? ⟨b, o + k * 3 + 1, none⟩ = some (.string t.name) ∧ w'.cell? ⟨b, o + k * 3 + 2, none⟩ = some (.string t.value))
     (first | exact HS.out _ (Below.refl _ _).drew | exact HS.out _ (Below.refl _ _) | exact HS.out _ Hb8.out | go_keep)
     ((go_at_call 58; (first | (with_reducible refine (Hs.out _ (Below.refl _ _).drew).mono ?_) | (with_reducible refine (Hs.out _ (Below.refl _ _)).mono ?_)); rintro e w8 ⟨rfl, hb8⟩; have Hb8 : Hid (Below wo.heap.size wo w8) := (by first | exact Lib.hid (bthen (Below.refl _ _).drew hb8) | exact Lib.hid hb8); clear hb8))
    go_wp2_with fail
   ·go_ret
    exact ⟨by rw [Hno.out (by first | rfl | trivial)]; rfl, bthen Hb0.out (bthen Hb.out Hb8.out)⟩
   ·go_roundw
    case rel => exact ⟨k + 1, by omega, by go_num, Lib.hid (by rw [Htk.out, List.all_append, hall.out]; simp [← HY.out]), Lib.hid (bthen Hb.out Hb8.out)⟩
    case measure => simp [intOf]; omega
  ·obtain rfl : k = c.length := by omega
   have hr : fitsC n c = decide (n.kind = 1) := by
    have := hall.out
    rw [List.take_length] at this
    rw [Hfc.out, this, Bool.and_true]
   obtain ⟨x0, _⟩ := Hcl.out wr hb.out
   have hq : (n.kind == 1) = decide (n.kind = 1) := by
    by_cases e : n.kind = 1
    ·rw [decide_eq_true e, beq_iff_eq]; exact e
    ·rw [decide_eq_false e, beq_eq_false_iff_ne]; exact e
   obtain ⟨Y, hY⟩ : ∃ Y, Y = decide (n.kind = 1) := ⟨_, rfl⟩
   rw [← hY] at hr hq
   have Hr := Lib.hid hr
   clear hr hY hall
   go_wp2_with fail
   go_ret
   exact ⟨by rw [Hr.out]; first | rfl | exact ret_bool hq, bthen Hb0.out hb.out⟩
end Go.Proofs.YtmbhkkophkccbaaGreat.R10
end
section
namespace Go.Proofs.YtmbhkkophkccbaaGreat.R10
open Go Go.RowKit Go.Proofs.YtmbhkkophkccbaaGreat.Seq WS FS Mem Rd Shapes Word FFam Fn Fi
set_option linter.unusedVariables false
set_option linter.unusedSimpArgs false
theorem rEnds_snoc (f : Fo) (x : Stp) : ∀ (r : Sro) (first : Bool) (now : List Bool), rEnds f first now (r ++ [x]) = rStep f x (first && r.isEmpty) (rEnds f first now r)
 | [], first, now => by
  rw [List.nil_append, rEnds, rEnds, rEnds]
  cases first <;> rfl
 | y :: r, first, now => by
  rw [List.cons_append, rEnds, rEnds, rEnds_snoc f x r false]
  simp
noncomputable def nowAt (f : Fo) (r : Sro) (k : Nat) : List Bool := rEnds f true (List.replicate f.length false) (r.take k)
theorem nowAt_succ {f : Fo} {r : Sro} {k : Nat} (h : k < r.length) : nowAt f r (k + 1) = rStep f r[k] (decide (k = 0)) (nowAt f r k) := by
 unfold nowAt
 rw [List.take_succ_eq_append_getElem h, rEnds_snoc]
 congr 1
 cases k with
 | zero => simp
 | succ k =>
  rw [decide_eq_false (by omega), Bool.true_and]
  cases r with
  | nil => simp at h
  | cons y r => rfl
theorem nowAt_length (f : Fo) (r : Sro) (k : Nat) : (nowAt f r k).length = f.length := rEnds_length _ _ _ (by simp)
theorem rStep_at {f : Fo} {x : Stp} {first : Bool} {now : List Bool} {q : Nat} (h : q < f.length) : (rStep f x first now)[q]'(by rw [rStep_length]; exact h) = (aheadB f now x first (depthOf f q) q && fitsC (at_ f (q : Int)) x.c) := by
 unfold rStep
 simp
theorem getB {l : List Bool} {j : Nat} (h : j < l.length) : l.getD j false = l[j] := by rw [List.getD_eq_getElem?_getD, List.getElem?_eq_getElem h]; rfl
theorem any_step {f : Fo} {now : List Bool} {d : Nat} {j : Int} (h : Up f (d + 1) j) (a : Bool) : (a || (upL f (d + 1) j).any (fun u => now.getD u.toNat false)) = ((a || now.getD j.toNat false) || (upL f d (at_ f j).parent).any (fun u => now.getD u.toNat false)) := by
 rw [upL, List.any_cons, Bool.or_assoc]
theorem any_end {f : Fo} {now : List Bool} {j : Int} (a : Bool) : (a || (upL f 0 j).any (fun u => now.getD u.toNat false)) = a := by simp [upL]
def RS (w : World) (bf j : Nat) (nd : Nd) (va vk : Value) (bs js : Nat) (vt : Value) : Prop := Cells6 w bf j nd va vk ∧ w.cell? ⟨bs, js, none⟩ = some vt
theorem RS.set {w : World} {bf j : Nat} {nd : Nd} {va vk : Value} {bs js : Nat} {vt : Value} {b q : Nat} {y : Value} (h : RS w bf j nd va vk bs js vt) (hbf : bf ≠ b) (hbs : bs ≠ b) : RS (w.setCell ⟨b, q, none⟩ y) bf j nd va vk bs js vt := by
 obtain ⟨⟨a0, a1, a2, a3, a4, a5⟩, b0⟩ := h
 have k : ∀ m, (w.setCell ⟨b, q, none⟩ y).cell? ⟨bf, m, none⟩ = w.cell? ⟨bf, m, none⟩ := fun m => OwnF.cell_same (Below.heap_setCell _ _ _ _ hbf) _
 exact ⟨⟨(k _).trans a0, (k _).trans a1, (k _).trans a2, (k _).trans a3, (k _).trans a4, (k _).trans a5⟩, (OwnF.cell_same (Below.heap_setCell _ _ _ _ hbs) _).trans b0⟩
theorem rfits_at {w : World} {b o c : Nat} {f : Fo} (h : RdF w.heap.size w (.slice (some ⟨b, o, none⟩) f.length c) f) (hsm : ∀ n ∈ f, Sm n) {k : Nat} (hk : k < f.length) :
  ∃ va vk, (∃ A n c, va = .slice A n c) ∧ (∃ A n c, vk = .slice A n c) ∧ (∀ w', Below w.heap.size w w' → Cells6 w' b (o + k * 6) (at_ f (k : Int)) va vk) ∧
   ∀ w', Below w.heap.size w w' → ∀ vc cs, RdL testE 3 w'.heap.size w' vc cs → SmC cs → Calls Tryz.prog 26 #[ndV (at_ f (k : Int)) va vk, vc] w' (SoPost (fitsC (at_ f (k : Int)) cs) w') := by
 obtain ⟨b2, o2, Aa, ca, Ak, ck, e, hlt, n0, n1, n2, n3, n4, n5, ra, rk, _⟩ := node_at h hk
 injection e with e
 injection e with e1 e2 _
 subst e1 e2
 rw [atN hk]
 refine ⟨_, _, ⟨_, _, _, rfl⟩, ⟨_, _, _, rfl⟩, fun w' hb => ⟨cell_grow hb n0, cell_grow hb n1, cell_grow hb n2, cell_grow hb n3, cell_grow hb n4, cell_grow hb n5⟩, fun w' hb vc cs hc hs => ?_⟩
 exact R10.Fits_calls w' f[k] _ _ vc cs ((ra.below attrE_keeps (w' := w') hb (Nat.le_refl _)).mono attrE_keeps hb.size) hc (hsm _ (List.getElem_mem hk)) hs
set_option maxRecDepth 100000 in
set_option maxHeartbeats 8000000 in
theorem ends_calls (w : World) (v : Value) (f : Fo) (h : RdF w.heap.size w v f) (hm : mayB f = true) (hsm : ∀ n ∈ f, Sm n) (vr : Value) (r : Sro) (hr : RdL stepE 2 w.heap.size w vr r) (hrs : ∀ x ∈ r, SmC x.c) :
  Calls Tryz.prog 54 #[v, vr] w fun e w' => ∃ g c, e = .returned (.slice (some ⟨g, 0, none⟩) f.length c) ∧ w'.ownsRow w.heap.size 4 1 (.slice (some ⟨g, 0, none⟩) f.length c) f.length (bR (nowAt f r r.length)) ∧ Below w.heap.size w w' := by
 have hrd := fun w' (hb : Below w.heap.size w w') => (h.below nodeE_keeps (w' := w') hb (Nat.le_refl _))
 have hrr := fun w' (hb : Below w.heap.size w w') => (hr.below stepE_keeps (w' := w') hb (Nat.le_refl _))
 have hlen := may_len hm
 have hmay := may_is hm
 obtain ⟨bf, of, c0, rfl, hl0, hc0⟩ := slice_some h (by omega)
 obtain ⟨Ar, cr, rfl, hlr, hcr, _⟩ := hr.form
 simp only [maxLen] at hc0 hcr
 have hbfl : bf < w.heap.size := by
  obtain ⟨b2, o2, cs, e, hlt, _⟩ := h.at_ (i := 0) (by omega)
  injection e with e
  injection e with e1 _ _
  omega
 have hbfl : bf < w.heap.size := by
  obtain ⟨b2, o2, cs, e, hlt, _⟩ := h.at_ (i := 0) (by omega)
  simp only [Option.some.injEq, Addr.mk.injEq] at e
  omega
 have hmk := fun W => run_make_row' (P := Tryz.prog) 123 4 (.bool false) 1 Tryz.underlying123 info_bool rfl .i64 .i64 f.length (by omega) (by omega) W
 have Hrd := Lib.hid hrd; have Hrr := Lib.hid hrr; have Hsm := Lib.hid hsm; have Hrs := Lib.hid hrs; have Hmay := Lib.hid hmay; have Hm := Lib.hid hm
 clear hrd hrr hsm hrs hmay h hr hm
 go_enter Tryz.func54, Tryz.ntmps54
 go_upto_region 2 with fail
 obtain ⟨W0, hW0⟩ : ∃ W0, w.alloc (.cells (madeCells #[.bool false] f.length) 4) = W0 := ⟨_, rfl⟩
 have ho0 : W0.ownsRow w.heap.size 4 1 (.slice (some ⟨w.heap.size, 0, none⟩) f.length f.length) f.length (bR (nowAt f r 0)) := by rw [← hW0]; exact made_bools w f.length (by omega)
 have hb0 : Below w.heap.size w W0 := by rw [← hW0]; exact (Below.refl _ _).alloc (Nat.le_refl _) _
 rw [hW0]
 have Ho0 := Lib.hid ho0; have Hb0 := Lib.hid hb0
 clear ho0 hb0 hW0
 go_wp2_with fail
 go_loopw [5, 6] (fun u i wr => ∃ k : Nat, k ≤ r.length ∧ i = .int .i64 k ∧ (∃ g c, u = .slice (some ⟨g, 0, none⟩) f.length c) ∧ Hid (wr.ownsRow w.heap.size 4 1 u f.length (bR (nowAt f r k))) ∧ Hid (Below w.heap.size w wr)) (fun _ i _ => r.length - (intOf i).toNat)
 case atStart => exact ⟨0, Nat.zero_le _, rfl, ⟨_, _, rfl⟩, Ho0, Hb0⟩
 case round =>
  obtain ⟨k, hk, rfl, ⟨g, cg, rfl⟩, hrow, hb⟩ := hrel
  by_cases hkl : k < r.length
  ·obtain ⟨wo, rfl⟩ : ∃ wo : World, wo = wr := ⟨_, rfl⟩
   obtain ⟨bs, os, At, ct, rfl, _, s0, s1, hst, _, _⟩ := step_at (Hrr.out wo hb.out) hkl
   have hsc := Hrs.out r[k] (List.getElem_mem hkl)
   have hnx := nowAt_succ (f := f) hkl
   generalize r[k] = x at *
   have hNl := nowAt_length f r k
   obtain ⟨NOW, hNOW⟩ : ∃ N, N = nowAt f r k := ⟨_, rfl⟩
   rw [← hNOW] at hNl hnx hrow
   obtain ⟨N, hN⟩ : ∃ N, N = rStep f x (decide (k = 0)) NOW := ⟨_, rfl⟩
   have hNl2 : N.length = f.length := by rw [hN, rStep_length]
   have hNat : ∀ q (hq : q < f.length) (hq2 : q < N.length), N[q] = (aheadB f NOW x (decide (k = 0)) (depthOf f q) q && fitsC (at_ f (q : Int)) x.c) := fun q hq hq2 => by
    have := rStep_at (x := x) (first := decide (k = 0)) (now := NOW) hq
    simp only [hN]
    exact this
   rw [← hN] at hnx
   go_upto_region 6 with fail
   obtain ⟨W1, hW1⟩ : ∃ W1, wo.alloc (.cells (madeCells #[.bool false] f.length) 4) = W1 := ⟨_, rfl⟩
   have ho1 : W1.ownsRow wo.heap.size 4 1 (.slice (some ⟨wo.heap.size, 0, none⟩) f.length f.length) f.length (bR (rowTo N 0)) := by rw [← hW1, rowTo_zero, hNl2]; exact made_bools wo f.length (by omega)
   have hb1 : Below wo.heap.size wo W1 := by rw [← hW1]; exact (Below.refl _ _).alloc (Nat.le_refl _) _
   rw [hW1]
   have hgl := (hrow.out.lt g rfl).2
   have hkeep := fun w' (hx : Below wo.heap.size wo w') => (⟨cell_grow hx s0, cell_grow hx s1⟩ : w'.cell? ⟨bs, os + k * 2, none⟩ = _ ∧ w'.cell? ⟨bs, os + k * 2 + 1, none⟩ = _)
   have hnw := fun w' (hx : Below wo.heap.size wo w') => own_keep hrow.out (w' := w') (fun g' hg' => hx.block g' (hrow.out.lt g' hg').2)
   have hst2 := fun w' (hx : Below wo.heap.size wo w') => (hst.below testE_keeps (w' := w') hx hb.out.size).mono testE_keeps hx.size
   have hup := fun w' (hx : Below wo.heap.size wo w') => bthen hb.out hx
   have hbsl : bs < wo.heap.size := World.block_lt_of_cell? wo _ s0
   have Ho1 := Lib.hid ho1; have Hb1 := Lib.hid hb1; have Hkeep := Lib.hid hkeep; have Hnw := Lib.hid hnw; have Hst2 := Lib.hid hst2; have Hup := Lib.hid hup; have HNl := Lib.hid hNl; have HNl2 := Lib.hid hNl2; have HNat := Lib.hid hNat; have Hnx := Lib.hid hnx; have Hsc := Lib.hid hsc; have Hrow := Lib.hid hrow.out; have Hgl := Lib.hid hgl; have Hbsl := Lib.hid hbsl
   clear ho1 hb1 hkeep hnw hst2 hup hNl hNl2 hNat hnx hsc hrow hgl hbsl hN hNOW hW1 s0 s1 hst
   go_wp2_with fail
   go_loopw [8] (fun i wx => ∃ q : Nat, q ≤ f.length ∧ i = .int .i64 q ∧ Hid (wx.ownsRow wo.heap.size 4 1 (.slice (some ⟨wo.heap.size, 0, none⟩) f.length f.length) f.length (bR (rowTo N q))) ∧ Hid (Below wo.heap.size wo wx)) (fun i _ => f.length - (intOf i).toNat)
   case atStart => exact ⟨0, Nat.zero_le _, rfl, Ho1, Hb1⟩
   case round =>
    obtain ⟨q, hq, rfl, ho, hb3⟩ := hrel
    by_cases hqlt : q < f.length
    ·obtain ⟨wz, rfl⟩ : ∃ wz : World, wz = wr := ⟨_, rfl⟩
     have hupz := Hup.out wz hb3.out
     obtain ⟨va, vk, ⟨A13, n13, c13, rfl⟩, ⟨A14, n14, c14, rfl⟩, hc1, hf1⟩ := rfits_at ((Hrd.out wz hupz).mono nodeE_keeps hupz.size) Hsm.out hqlt
     have hfit := fun w' (hx : Below wz.heap.size wz w') => hf1 w' hx _ x.c (Hst2.out w' (bthen hb3.out hx)) Hsc.out
     unfold SoPost at hfit
     obtain ⟨x0, x1, x2, x3, x4, x5⟩ := hc1 wz (Below.refl _ _)
     obtain ⟨s0, s1⟩ := Hkeep.out wz hb3.out
     have hpar := Hmay.out.par q hqlt
     obtain ⟨M, hM⟩ := may_climbs Hm.out q hqlt
     obtain ⟨D, rfl⟩ : ∃ D, M = D + 1 := by
      cases M with
      | zero => have : (q : Int) < 0 := hM; omega
      | succ D => exact ⟨D, rfl⟩
     have hqN : q < N.length := by have := HNl2.out; omega
     have hnq := HNat.out q hqlt hqN
     have hA : aheadB f NOW x (decide (k = 0)) (depthOf f q) q = (decide (k = 0) || (if x.child then decide (0 ≤ (at_ f (q : Int)).parent) && NOW.getD (at_ f (q : Int)).parent.toNat false else (upL f D (at_ f (q : Int)).parent).any (fun u => NOW.getD u.toNat false))) := by
      unfold aheadB
      rw [depthOf_up hM]
      rfl
     rw [hA] at hnq
     have hupp := hM.2
     have hcells := fun (z : Nat) (hz : z < f.length) => (fits_at ((Hrd.out wz hupz).mono nodeE_keeps hupz.size) Hsm.out hz)
     have hpc : ∀ z : Nat, z < f.length → wz.cell? ⟨bf, of + z * 6 + 4, none⟩ = some (.int .i64 (at_ f (z : Int)).parent) := fun z hz => by
      obtain ⟨_, _, _, _, hc, _⟩ := hcells z hz
      exact (hc wz (Below.refl _ _)).2.2.2.2.1
     have hbc : ∀ z : Nat, (hz : z < NOW.length) → wz.cell? ⟨g, z, none⟩ = some (.bool NOW[z]) := fun z hz => bool_cell (Hnw.out wz hb3.out) hz
     have hrl : (rowTo N q).length = f.length := by rw [rowTo_length (by have := HNl2.out; omega), HNl2.out]
     have hnxr := fun w' (hx : Below wz.heap.size wz w') => own_keep ho.out (w' := w') (fun g' hg' => hx.block g' (ho.out.lt g' hg').2)
     have hset : ∀ (w' : World) (y : Bool), Below wz.heap.size wz w' → y = N[q] → (w'.setCell ⟨wo.heap.size, q, none⟩ (.bool y)).ownsRow wo.heap.size 4 1 (.slice (some ⟨wo.heap.size, 0, none⟩) f.length f.length) f.length (bR (rowTo N (q + 1))) := fun w' y hb' hy => by
      subst hy
      have := ((hnxr w' hb').stored q (.bool N[q])).1
      rw [bR_set, rowTo_succ hqN] at this
      exact this
     have hbel : ∀ (w' : World) (y : Bool), Below wz.heap.size wz w' → Below wo.heap.size wo (w'.setCell ⟨wo.heap.size, q, none⟩ (.bool y)) := fun w' y hb' => (bthen hb3.out hb').setCell (Nat.le_refl _) _
     have hxc := fun w' (hb' : Below wz.heap.size wz w') => (⟨bool_cell (hnxr w' hb') (by omega), bool_free (hnxr w' hb') q⟩ : w'.cell? ⟨wo.heap.size, q, none⟩ = some (.bool ((rowTo N q)[q]'(by omega))) ∧ w'.frozen? ⟨wo.heap.size, q, none⟩ = false)
     generalize (rowTo N q)[q]'(by omega) = oldb at hxc
     have hgn := fun w' (hx : Below wz.heap.size wz w') => (⟨hc1 w' hx, (Hkeep.out w' (bthen hb3.out hx)).1⟩ : RS w' bf (of + q * 6) (at_ f (q : Int)) _ _ bs (os + k * 2) _)
     have hbf : bf ≠ wo.heap.size := by have h1 := hbfl; have h2 := Hup.out wo (Below.refl _ _); have := h2.size; omega
     have hbs : bs ≠ wo.heap.size := by have := Hbsl.out; omega
     have hgnS := fun w' (hx : Below wz.heap.size wz w') (y : Bool) => RS.set (q := q) (y := .bool y) (hgn w' hx) hbf hbs
     unfold RS Cells6 at hgnS hgn
     have HgnS := Lib.hid hgnS
     clear hgnS
     obtain ⟨xc0, xf0⟩ := hxc wz (Below.refl _ _)
     have hqI : (q : Int) < (f.length : Int) := by omega
     have hq0 : (0 : Int) ≤ (q : Int) := by omega
     have hkI : (k : Int) < (r.length : Int) := by omega
     have hk0 : (0 : Int) ≤ (k : Int) := by omega
     obtain ⟨F0, hF0⟩ : ∃ F0, F0 = decide (k = 0) := ⟨_, rfl⟩
     have hki : ((k : Int) == 0) = F0 := by
      rw [hF0]
      by_cases e : k = 0
      ·rw [decide_eq_true e, beq_iff_eq]; omega
      ·rw [decide_eq_false e, beq_eq_false_iff_ne]; omega
     rw [← hF0] at hnq
     obtain ⟨A, hAA⟩ : ∃ A, A = (F0 || (if x.child then decide (0 ≤ (at_ f (q : Int)).parent) && NOW.getD (at_ f (q : Int)).parent.toNat false else (upL f D (at_ f (q : Int)).parent).any (fun u => NOW.getD u.toNat false))) := ⟨_, rfl⟩
     rw [← hAA] at hnq
     generalize at_ f (q : Int) = nd at *
     generalize fitsC nd x.c = fb at *
     have Hfit := Lib.hid hfit; have Hset := Lib.hid hset; have Hbel := Lib.hid hbel; have Hxc := Lib.hid hxc; have Hgn := Lib.hid hgn; have Hnq := Lib.hid hnq; have HAA := Lib.hid hAA; have Hupp := Lib.hid hupp; have Hpc := Lib.hid hpc; have Hbc := Lib.hid hbc; have HF0 := Lib.hid hF0; have Hb3 := Lib.hid hb3.out
     clear hfit hset hbel hxc hgn hnq hAA hupp hpc hbc hF0 hA hM hcells hc1 hf1 hnxr hrl hb3 ho hupz
     go_upto_block 4 with fail
     go_cut [9, 10] from 36 to 58 (fun a u wy => a = .bool A ∧ wy = wz)
     case first =>
      obtain ⟨p, hp⟩ : ∃ p, nd.parent = p := ⟨_, rfl⟩
      have hAA := HAA.out
      have hupp := Hupp.out
      rw [hp] at hAA hpar hupp
      cases F0 with
      | true =>
       have hk2 : ¬ (0 : Int) < (k : Int) := by have := of_decide_eq_true HF0.out.symm; omega
       obtain rfl : A = true := by rw [hAA]; rfl
       have Hp := Lib.hid hp
       clear hp hAA hupp
       go_wp2_with fail
       go_loop [9, 10] (fun a u => a = .bool true ∧ u = .int .i64 p) (fun _ _ => 0)
       case atStart => exact ⟨rfl, by rw [Hp.out]⟩
       case round =>
        obtain ⟨rfl, rfl⟩ := hrel
        by_cases hp0 : 0 ≤ p
        ·go_wp2_with fail
         go_meet
         exact ⟨rfl, rfl⟩
        ·go_wp2_with fail
         go_meet
         exact ⟨rfl, rfl⟩
      | false =>
       have hk2 : (0 : Int) < (k : Int) := by have := of_decide_eq_false HF0.out.symm; omega
       cases hch : x.child with
       | true =>
        rw [hch] at s1 hAA
        have Hp := Lib.hid hp; have HA2 := Lib.hid hAA
        clear hp hAA hupp hch
        go_wp2_with fail
        go_loop [9, 10] (fun a u => a = .bool false ∧ u = .int .i64 p) (fun _ _ => 0)
        case atStart => exact ⟨rfl, by rw [Hp.out]⟩
        case round =>
         obtain ⟨rfl, rfl⟩ := hrel
         by_cases hp0 : 0 ≤ p
         ·obtain ⟨z, rfl⟩ : ∃ z : Nat, p = z := ⟨p.toNat, by omega⟩
          have hzl : z < f.length := by omega
          have hzN : z < NOW.length := by have := HNl.out; omega
          have hbz := Hbc.out z hzN
          have hA1 : A = NOW[z] := by
           rw [HA2.out]
           simp [hzN, List.getD_eq_getElem?_getD]
          have HA1 := Lib.hid hA1
          have hz1 : (z : Int) < (f.length : Int) := by omega
          clear hA1
          generalize NOW[z] = nz at *
          go_wp2_with fail
          go_meet
          exact ⟨by rw [HA1.out], rfl⟩
         ·have hA1 : A = false := by rw [HA2.out]; simp [hp0]
          have HA1 := Lib.hid hA1
          clear hA1
          go_wp2_with fail
          go_meet
          exact ⟨by rw [HA1.out], rfl⟩
       | false =>
        rw [hch] at s1 hAA
        rw [if_neg (by decide)] at hAA
        have Hp := Lib.hid hp; have HA2 := Lib.hid hAA; have Hup2 := Lib.hid hupp
        clear hp hAA hupp hch
        go_wp2_with fail
        go_loopg [9, 10] D (fun d a u wr => ∃ (j : Int) (b : Bool), a = .bool b ∧ u = .int .i64 j ∧ Hid (Up f d j) ∧ -1 ≤ j ∧ j < f.length ∧ Hid ((b || (upL f d j).any (fun u => NOW.getD u.toNat false)) = A) ∧ wr = wz)
        case atStart => exact ⟨p, false, rfl, by rw [Hp.out], Hup2, hpar.1, hpar.2.1, Lib.hid HA2.out.symm, rfl⟩
        case round =>
         obtain ⟨j, b, rfl, rfl, hup, hj0, hj1, hbA, hwz⟩ := hrel
         have hwz' := hwz.symm
         subst hwz'
         by_cases h1 : j = -1
         ·subst h1
          have hg0 : gk = 0 := by
           cases gk with
           | zero => rfl
           | succ g => have : (0 : Int) ≤ -1 := hup.out.1; omega
          subst hg0
          have hb2 := hbA.out
          rw [any_end] at hb2
          have HB2 := Lib.hid hb2
          clear hb2 hbA
          go_wp2_with fail
          go_meet
          exact ⟨by rw [← HB2.out], rfl⟩
         ·obtain ⟨z, rfl⟩ : ∃ z : Nat, j = z := ⟨j.toNat, by omega⟩
          have hzl : z < f.length := by omega
          have hzN : z < NOW.length := by have := HNl.out; omega
          have hbz := Hbc.out z hzN
          have hpz := Hpc.out z hzl
          have hparz := Hmay.out.par z hzl
          obtain ⟨g2, rfl⟩ : ∃ g, gk = g + 1 := by
           cases gk with
           | zero => have : (z : Int) < 0 := hup.out; omega
           | succ g => exact ⟨g, rfl⟩
          have hb2 := hbA.out
          rw [any_step hup.out, Int.toNat_natCast, getB hzN] at hb2
          have hup3 := hup.out.2
          have HB2 := Lib.hid hb2; have HU3 := Lib.hid hup3
          have hz1 : (z : Int) < (f.length : Int) := by omega
          have hz0 : (0 : Int) ≤ (z : Int) := by omega
          clear hb2 hbA hup3 hup h1
          generalize NOW[z] = nz at *
          generalize (at_ f (z : Int)).parent = pz at *
          cases b
          all_goals
           go_wp2_with fail
           go_roundg g2
           case measure => omega
           case rel => exact ⟨pz, _, rfl, rfl, HU3, hparz.1, hparz.2.1, HB2, rfl⟩
     case rest =>
      obtain ⟨rfl, hwy⟩ := hcut
      have hwy' := hwy.symm
      subst hwy'
      cases A with
      | false =>
       have hN0 : false = N[q] := by rw [Hnq.out, Bool.false_and]
       have HN0 := Lib.hid hN0
       clear hN0
       go_upto_region 15 with fail
       go_region
       all_goals go_wp2_with fail
       all_goals
        go_roundw
        case rel => first | exact ⟨q + 1, by omega, by go_num, Lib.hid (Hset.out _ _ (Below.refl _ _) HN0.out), Lib.hid (Hbel.out _ _ (Below.refl _ _))⟩ | exact ⟨q + 1, by omega, by go_num, Lib.hid (Hset.out _ _ (Below.refl _ _).drew HN0.out), Lib.hid (Hbel.out _ _ (Below.refl _ _).drew)⟩ | exact ⟨q + 1, by omega, by go_num, Lib.hid (Hset.out _ _ (Below.refl _ _) HN0.out).drew, Lib.hid (Hbel.out _ _ (Below.refl _ _)).drew⟩
        case measure => simp [intOf]; omega
      | true =>
       have hN0 : fb = N[q] := by rw [Hnq.out, Bool.true_and]
       have HN0 := Lib.hid hN0
       clear hN0
       go_upto_region 15 with fail
       go_region_held3 (fun w' => (w'.cell? ⟨bf, of + q * 6, none⟩ = some (.int .i64 nd.kind) ∧ w'.cell? ⟨bf, of + q * 6 + 1, none⟩ = some (.string nd.name) ∧ w'.cell? ⟨bf, of + q * 6 + 2, none⟩ = some (.string nd.text) ∧ w'.cell? ⟨bf, of + q * 6 + 3, none⟩ = some (.slice A13 n13 c13) ∧ w'.cell? ⟨bf, of + q * 6 + 4, none⟩ = some (.int .i64 nd.parent) ∧ w'.cell? ⟨bf, of + q * 6 + 5, none⟩ = some (.slice A14 n14 c14)) ∧ w'.cell? ⟨bs, os + k * 2, none⟩ = some (.slice At x.c.length ct))
        (first | exact Hgn.out _ (Below.refl _ _).drew | exact Hgn.out _ (Below.refl _ _) | exact Hgn.out _ Hb5.out | exact HgnS.out _ Hb5.out _ | go_keep)
        ((go_at_call 26; (first | (with_reducible refine (Hfit.out _ (Below.refl _ _).drew).mono ?_) | (with_reducible refine (Hfit.out _ (Below.refl _ _)).mono ?_)); rintro e w5 ⟨rfl, hb5⟩; have hb5' : Below wz.heap.size wz w5 := (by first | exact bthen (Below.refl _ _).drew hb5 | exact hb5); obtain ⟨xc5, xf5⟩ := Hxc.out _ hb5'; have Hb5 := Lib.hid hb5'; clear hb5 hb5'))
       go_wp2_with fail
       go_roundw
       case rel => exact ⟨q + 1, by omega, by go_num, Lib.hid (Hset.out _ _ Hb5.out HN0.out), Lib.hid (Hbel.out _ _ Hb5.out)⟩
       case measure => simp [intOf]; omega
    ·obtain rfl : q = f.length := by omega
     have hfin : Hid (wr.ownsRow wo.heap.size 4 1 (.slice (some ⟨wo.heap.size, 0, none⟩) f.length f.length) f.length (bR (nowAt f r (k + 1)))) := Lib.hid (by
      have := ho.out
      rw [← HNl2.out, rowTo_full] at this
      rw [Hnx.out, ← HNl2.out]
      exact this)
     clear ho
     go_wp2_with fail
     go_roundw
     case rel => exact ⟨k + 1, by omega, by go_num, ⟨_, _, rfl⟩, Lib.hid (own_base hfin.out hb.out.size), Lib.hid (Hup.out _ hb3.out)⟩
     case measure => simp [intOf]; omega
  ·obtain rfl : k = r.length := by omega
   go_wp2_with fail
   go_ret
   exact ⟨g, cg, rfl, hrow.out, hb.out⟩
end Go.Proofs.YtmbhkkophkccbaaGreat.R10
end
