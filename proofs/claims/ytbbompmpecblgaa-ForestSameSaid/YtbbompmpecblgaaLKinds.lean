/- ForestKinds. -/
import Derived.Test.YtbbompmpecblgaaLTops
import Derived.Test.YtbbompmpecblgaaOwnF
import Derived.Test.YtbbompmpecblgaaFKindsP
import Derived.Deep.DeepCutAuto
import Derived.Deep.RegionHeld3
namespace Go.Proofs.Ytbbompmpecblgaa.LKinds
open Go Go.RowKit Go.Proofs.Ytbbompmpecblgaa.Seq Go.Proofs.Ytbbompmpecblgaa.WS Go.Proofs.Ytbbompmpecblgaa.FS Go.Proofs.Ytbbompmpecblgaa.Mem Go.Proofs.Ytbbompmpecblgaa.Rd Go.Proofs.Ytbbompmpecblgaa.Shapes Go.Proofs.Ytbbompmpecblgaa.Word Go.Proofs.Ytbbompmpecblgaa.FFam Go.Proofs.Ytbbompmpecblgaa.LBnd Go.Proofs.Ytbbompmpecblgaa.OwnF
set_option linter.unusedVariables false
set_option linter.unusedSimpArgs false

theorem info_node : (Try.prog.info? 45).map (fun i => (i.zero, i.size, i.bytes)) = some (some (.agg #[.int .i64 0, .string ⟨#[]⟩, .string ⟨#[]⟩, .slice none 0 0, .int .i64 0, .slice none 0 0]), 6, 96) := by kernel_rfl
theorem pl_clone {ops : Array Oper} {rest : List Oper} {o : Oper} {a : Act} {Q : Exit → Act → World → Prop} (W : World) (hgd : o.guard = none) (s x : Operand)
    (ho : o.op = .call { callee := .builtin .append, args := #[s, x], argTypes := #[33, 33] }) (A : Option Addr) (c : Nat) (f : Fo) (hs : a.eval s = .slice (some ⟨W.heap.size, 0, none⟩) 0 0) (hx : a.eval x = .slice A f.length c)
    (hf : RdF W.heap.size W (.slice A f.length c) f) (h0 : 0 < f.length) (h1 : f.length ≤ 1000)
    (h : ∀ g cap w1, OwnF 45 W.heap.size w1 (.slice (some ⟨g, 0, none⟩) f.length cap) f → Below W.heap.size W w1 → W.heap.size ≤ g → g < w1.heap.size → wpList Try.prog ops Q rest (a.put o.dst (.slice (some ⟨g, 0, none⟩) f.length cap)) w1) :
    wpList Try.prog ops Q (o :: rest) a (W.alloc (.cells #[] 45)) := by
  obtain ⟨i0, hi, hz0, hz1, hz2⟩ := info_parts info_node
  obtain ⟨b, off, xs, rfl, hb, hl, hc, hn⟩ := rd_cells hf (Nat.le_refl _) h0
  have hown : (W.alloc (.cells #[] 45)).ownsRow W.heap.size 45 6 (.slice (some ⟨W.heap.size, 0, none⟩) 0 0) 0 [] := World.ownsRow_made W #[] 0 (Nat.le_refl _) (by simp [maxLen]) (by simp)
  have hone : ∀ u ∈ xs, u.oneCell' = true := by
    intro u hu
    obtain ⟨j, hj, rfl⟩ := List.mem_iff_getElem.1 hu
    have h6 := hn (j / 6) (by omega)
    refine h6.one _ ?_
    rw [List.mem_iff_getElem?]
    refine ⟨j % 6, ?_⟩
    rw [List.getElem?_take, if_pos (Nat.mod_lt _ (by decide)), List.getElem?_drop, show j / 6 * 6 + j % 6 = j by omega, List.getElem?_eq_getElem hj]
  refine wpList_append_own_at (W.alloc (.cells #[] 45)) hgd s x 33 ho W.heap.size 45 i0 _ 6 96 Try.underlying33 hi hz0 hz1 hz2 rfl (by decide) _ 0 [] hs hown ⟨b, off, none⟩ f.length c xs hx (by omega) (fun j u hj => ?_) hone (by simp only [maxLen]; omega) (by omega) (by simp) ?_
  · rw [Addr.add_lit]
    exact cell_alloc (hc j u hj) _
  · intro v' w' ho' hg' hnil hat
    have hO := OwnF.more (f := []) (g := f) (v' := v') hown (fun i hi => absurd hi (by simp)) hl (fun i hi => (hn i hi).keep (w' := W.alloc (.cells #[] 45)) (fun b hb _ => Below.heap_alloc _ _ _ hb) (by simp) (fun b hb _ e => by injection e with e; have : W.heap.size = b := e; omega)) (by simpa using ho') hg' (by
      rcases hat with e | e
      · exact .inl e
      · exact .inr e)
    rw [List.nil_append] at hO
    obtain ⟨g, cap, rfl, hge, hlt, _⟩ := hO.form h0
    refine h g cap w' hO ?_ hge hlt
    exact ((Off.alloc (fun b => W.heap.size ≤ b) W _).trans (Off.grown hg' (fun r hr => by injection hr with hr; have : W.heap.size = r := hr; omega))).toBelow (Nat.le_refl _) (fun b hb => hb)
set_option maxRecDepth 100000 in
set_option maxHeartbeats 8000000 in
theorem law_calls (w : World) (f : Fo) (v : Value) (h : RdF w.heap.size w v f) (a : Int) (ha : (Lit.int .u8 a).wf = true) (kd : Int) (hk : (Lit.int .i64 kd).wf = true) (pr : Int) (hp : (Lit.int .i64 pr).wf = true) :
    Calls Try.prog 11 #[v, .int .u8 a, .int .i64 kd, .int .i64 pr] w fun e w' => e = .returned (.bool true) ∧ Below w.heap.size w w' := by
  have hbn := bounded_calls w v f h
  obtain ⟨A0, c0, rfl, hl0, hc0, h'⟩ := h.form
  simp only [maxLen] at hc0
  have hrd := fun w' (hb : Below w.heap.size w w') => (h'.below nodeE_keeps (w' := w') hb (Nat.le_refl _)).mono nodeE_keeps hb.size
  cases hB : bndB f with
  | false =>
    rw [hB] at hbn
    have Hbn := Lib.hid hbn
    clear hbn h h' hrd ha hk hp
    go_enter Try.func11, Try.ntmps11
    go_wp2_with (first | (go_at_call 27; (with_reducible refine (Hbn.out).mono ?_); rintro e w5 ⟨rfl, rfl⟩) | (go_at_call 28; (with_reducible refine (LShown.shown_calls _).mono ?_); rintro e w6 ⟨rfl, hb6⟩; have Hb6 := Lib.hid hb6; clear hb6))
    go_ret
    exact ⟨rfl, Hb6.out⟩
  | true =>
    rw [hB] at hbn
    have hkm := bnd_kids hB
    have hmy := FMay.May_calls w _ f h hkm
    cases hm : mayB f with
    | false =>
      rw [hm] at hmy
      have Hbn := Lib.hid hbn; have Hmy := Lib.hid hmy
      clear hbn hmy h h' hrd hkm ha hk hp
      go_enter Try.func11, Try.ntmps11
      go_wp2_with (first | (go_at_call 27; (with_reducible refine (Hbn.out).mono ?_); rintro e w5 ⟨rfl, rfl⟩) | (go_at_call 32; (with_reducible refine (Hmy.out).mono ?_); rintro e w5 ⟨rfl, hb5⟩; have Hb5 := Lib.hid hb5; clear hb5) | (go_at_call 28; (with_reducible refine (LShown.shown_calls _).mono ?_); rintro e w6 ⟨rfl, hb6⟩; have Hb6 := Lib.hid hb6; clear hb6))
      go_ret
      exact ⟨rfl, bthen Hb5.out Hb6.out⟩
    | true =>
      rw [hm] at hmy
      have hlen := may_len hm
      simp only [Lit.wf, Bool.and_eq_true, decide_eq_true_eq] at ha
      have ha0 : (0 : Int) ≤ a := ha.1
      have ha1 : a ≤ 255 := ha.2
      obtain ⟨an, rfl⟩ : ∃ an : Nat, a = an := ⟨a.toNat, by omega⟩
      obtain ⟨n, hn⟩ : ∃ n, n = an % f.length := ⟨_, rfl⟩
      have hnl : n < f.length := by rw [hn]; exact Nat.mod_lt _ (by omega)
      have hm1 : (an : Int) % (f.length : Int) = (n : Int) := by rw [hn]; omega
      have hm2 : Int.tmod (an : Int) (f.length : Int) = (n : Int) := by rw [Int.tmod_eq_emod_of_nonneg (by omega)]; exact hm1
      have hl1 : 1 ≤ f.length := hlen.1
      have hl2 : f.length ≤ 60 := hlen.2
      have Hbn := Lib.hid hbn; have Hmy := Lib.hid hmy; have Hm := Lib.hid hm; have Hrd := Lib.hid hrd; have Hkm := Lib.hid hkm; have Hk := Lib.hid hk; have Hp := Lib.hid hp
      clear hbn hmy h h' hrd hkm hm hB hk hp hn hlen ha
      go_enter Try.func11, Try.ntmps11
      go_upto_region 4 with (first
        | (go_at_call 27; (with_reducible refine (Hbn.out).mono ?_); rintro e w5 ⟨rfl, rfl⟩)
        | (go_at_call 32; (with_reducible refine (Hmy.out).mono ?_); rintro e w5 ⟨rfl, hb5⟩; have Hb5 := Lib.hid hb5; clear hb5)
        | (go_at_call 28; (with_reducible refine (LShown.shown_calls _).mono ?_); rintro e w6 ⟨rfl, hb6⟩; have Hb6 := Lib.hid (bthen Hb5.out hb6); clear hb6))
      have hr6 := Hrd.out _ Hb6.out
      have Hr6 := Lib.hid hr6
      clear hr6 hm1 hm2
      go_upto_region 5 with (at_builtin; go_loud (refine pl_clone w6 rfl _ _ rfl A0 c0 f rfl rfl Hr6.out (by omega) (by omega) ?_; intro g1 cap1 w7 hO7 hb7 hge7 hlt7))
      have hf7 := hO7.form (by omega)
      obtain ⟨_, _, he7, _, _, hfz7, hca7, hcb7⟩ := hf7
      injection he7 with he7 _ he8
      injection he7 with he7
      injection he7 with he7 _ _
      subst he7 he8
      obtain ⟨cs7, va7, vk7, hcs7, hc7, _, _⟩ := hO7.ne_block hnl
      have k7 : w7.cell? ⟨g1, n * 6, none⟩ = some (.int .i64 f[n].kind) := hc7 0 _ (by rw [hcs7]; rfl)
      have k7f := hfz7 (n * 6)
      simp only [maxLen] at hcb7
      have HO7 := Lib.hid hO7; have Hb7 := Lib.hid hb7
      clear hO7 hb7 hcs7 hc7 hfz7 Hr6
      go_upto_region 6 with fail
      have hO8 := HO7.out.store (j := 0) (u := .int .i64 kd) (n := { f[n] with kind := kd }) hnl (by decide) (fun cs hcs => by
        obtain ⟨va, vk, rfl, r1, r2, r3, r4, r5, r6⟩ := hcs
        exact ⟨va, vk, rfl, r1, r2, r3, r4, Hk.out, r6⟩)
      obtain ⟨W8, hW8⟩ : ∃ W8, w7.setCell ⟨g1, n * 6, none⟩ (.int .i64 kd) = W8 := ⟨_, rfl⟩
      have hb8 : Below w6.heap.size w6 W8 := by rw [← hW8]; exact Hb7.out.setCell hge7 _
      rw [Nat.add_zero, hW8] at hO8
      rw [hW8]
      have hB8 := bthen Hb6.out hb8
      have hr8 := Hrd.out _ hB8
      have HO8 := Lib.hid hO8; have HB8 := Lib.hid hB8; have Hr8 := Lib.hid hr8
      clear hO8 hB8 hr8 hb8 hW8 k7 k7f
      go_upto_region 7 with (at_builtin; go_loud (refine pl_clone W8 rfl _ _ rfl A0 c0 f rfl rfl Hr8.out (by omega) (by omega) ?_; intro g2 cap2 w9 hO9 hb9 hge9 hlt9))
      have hf9 := hO9.form (by omega)
      obtain ⟨_, _, he7, _, _, hfz9, hca9, hcb9⟩ := hf9
      injection he7 with he7 _ he8
      injection he7 with he7
      injection he7 with he7 _ _
      subst he7 he8
      obtain ⟨cs9, va9, vk9, hcs9, hc9, _, _⟩ := hO9.ne_block hnl
      have k9 : w9.cell? ⟨g2, n * 6 + 4, none⟩ = some (.int .i64 f[n].parent) := hc9 4 _ (by rw [hcs9]; rfl)
      have k9f := hfz9 (n * 6 + 4)
      simp only [maxLen] at hcb9
      have HO9 := Lib.hid hO9; have Hb9 := Lib.hid hb9
      clear hO9 hb9 hcs9 hc9 hfz9 Hr8
      go_upto_region 8 with fail
      have hO10 := HO9.out.store (j := 4) (u := .int .i64 pr) (n := { f[n] with parent := pr }) hnl (by decide) (fun cs hcs => by
        obtain ⟨va, vk, rfl, r1, r2, r3, r4, r5, r6⟩ := hcs
        exact ⟨va, vk, rfl, r1, r2, r3, r4, r5, Hp.out⟩)
      obtain ⟨W10, hW10⟩ : ∃ W10, w9.setCell ⟨g2, n * 6 + 4, none⟩ (.int .i64 pr) = W10 := ⟨_, rfl⟩
      have hb10 : Below W8.heap.size W8 W10 := by rw [← hW10]; exact Hb9.out.setCell hge9 _
      rw [hW10] at hO10
      rw [hW10]
      have hB10 := bthen HB8.out hb10
      have hg10 := HO8.out.below hb10
      clear hW10 k9 k9f hb10
      have hnk := Hkm.out f[n] (List.getElem_mem _)
      have hset : ∀ p : Nd, p.kids.length ≤ 1000 → ∀ x ∈ f.set n p, x.kids.length ≤ 1000 := fun p hp' x hx => by
        rcases List.mem_or_eq_of_mem_set hx with hx | hx
        · exact Hkm.out x hx
        · rw [hx]; exact hp'
      have hmg := FMay.May_calls W10 _ _ hg10.rd (hset _ hnk)
      have hmh := fun w' (hb : Below W10.heap.size W10 w') => FMay.May_calls w' _ _ (hO10.below hb).rd (hset _ hnk)
      have hpi := parent_is Hm.out hnl pr
      rw [at_nat hnl] at hpi
      obtain ⟨b, o, _, _, _, _, hA0, hbl, _, _, _, _, g4, _⟩ := node_at (Hrd.out w (Below.refl _ _)) hnl
      subst hA0
      have hpc := fun w' (hb : Below w.heap.size w w') => cell_below hb g4 hbl
      have hnew := fun W => LShown.new1_calls W
      have hmn : ∀ W A c, RdF W.heap.size W (.slice A 1 c) FNew.newF → Calls Try.prog 32 #[.slice A 1 c] W fun e w' => e = .returned (.bool true) ∧ Below W.heap.size W w' := fun W A c hr => by
        have := FMay.May_calls W _ FNew.newF hr (by decide)
        rwa [show mayB FNew.newF = true from new_may] at this
      have HB10 := Lib.hid hB10; have Hpc := Lib.hid hpc; have Hnew := Lib.hid hnew; have Hmn := Lib.hid hmn
      have hkn : (kd < 0 ∨ 3 < kd ∨ ¬ (kd = 0 ↔ n = 0)) → mayB (f.set n { f[n] with kind := kd }) = false := fun hx => kind_not hnl _ hx
      obtain ⟨mg, hmgd⟩ : ∃ mg, mg = mayB (f.set n { f[n] with kind := kd }) := ⟨_, rfl⟩
      obtain ⟨mh, hmhd⟩ : ∃ mh, mh = mayB (f.set n { f[n] with parent := pr }) := ⟨_, rfl⟩
      rw [← hmgd] at hmg hkn
      rw [← hmhd] at hmh hpi
      generalize f[n].parent = par at *
      have Hmg := Lib.hid hmg; have Hmh := Lib.hid hmh
      clear hB10 hpc hnew hmn hmg hmh hmgd hmhd hO10 hg10 hset hnk hbl g4 HO8 HB8 Hb7 Hb9 HO7 HO9
      have hstep : (kd < 0 ∨ 3 < kd ∨ ¬ (kd = 0 ↔ n = 0)) ∨ (0 ≤ kd ∧ kd ≤ 3 ∧ (kd = 0 ↔ n = 0)) := by omega
      go_cut [8, 62] (fun a c wx => a = .bool false ∧ c = .bool false ∧ Below W10.heap.size W10 wx)
      case first =>
        by_cases hgood : 0 ≤ kd ∧ kd ≤ 3 ∧ (kd = 0 ↔ n = 0)
        · obtain ⟨q1, q2, q3⟩ := hgood
          have e3 : ((kd : Int) == 0) = ((n : Int) == 0) := by
            rw [Bool.eq_iff_iff, beq_iff_eq, beq_iff_eq, q3]; omega
          have q4 : ¬ kd < 0 := by omega
          have q5 : ¬ 3 < kd := by omega
          clear q3 hstep hkn Hmg
          go_wp2_with fail
          go_meet
          exact ⟨rfl, rfl, Below.refl _ _⟩
        · obtain rfl : mg = false := hkn (by omega)
          have hm0 : ∀ W', W' = W10 → True := fun _ _ => trivial
          clear hkn hm0
          by_cases q1 : kd < 0
          · go_wp2_with (go_at_call 32; (with_reducible refine (Hmg.out).mono ?_); rintro e w11 ⟨rfl, hb11⟩; have Hb11 := Lib.hid hb11; clear hb11)
            go_meet
            exact ⟨rfl, rfl, Hb11.out⟩
          · by_cases q2 : 3 < kd
            · go_wp2_with (go_at_call 32; (with_reducible refine (Hmg.out).mono ?_); rintro e w11 ⟨rfl, hb11⟩; have Hb11 := Lib.hid hb11; clear hb11)
              go_meet
              exact ⟨rfl, rfl, Hb11.out⟩
            · have e3 : ((kd : Int) == 0) = !((n : Int) == 0) := by
                rw [Bool.eq_iff_iff]
                simp
                omega
              clear hgood hstep
              go_wp2_with (go_at_call 32; (with_reducible refine (Hmg.out).mono ?_); rintro e w11 ⟨rfl, hb11⟩; have Hb11 := Lib.hid hb11; clear hb11)
              all_goals
                go_meet
                exact ⟨rfl, rfl, by first | exact Hb11.out | exact Below.refl _ _⟩
      case rest =>
        obtain ⟨rfl, rfl, hbx⟩ := hcut
        have p4 := Hpc.out wc (bthen HB10.out hbx)
        have hmh := Hmh.out
        have Hbx := Lib.hid hbx
        have hmh2 : ∀ W, (W = wc ∨ W = wc.drew) → Calls Try.prog 32 #[.slice (some ⟨g2, 0, none⟩) f.length cap2] W fun e w' => e = .returned (.bool mh) ∧ Below wc.heap.size wc w' := by
          rintro W (rfl | rfl)
          · exact Hmh.out _ Hbx.out
          · exact (Hmh.out _ Hbx.out.drew).mono (fun e w' h => ⟨h.1, ((Below.refl _ wc).drew).trans h.2⟩)
        have e5 : ((pr : Int) == par) = mh := by rw [hpi]; rfl
        have Hm2 := Lib.hid hmh2; have HPC := Lib.hid (fun w' (hb : Below wc.heap.size wc w') => Hpc.out w' (bthen HB10.out (bthen Hbx.out hb)))
        clear hmh hmh2 hbx hpi hstep hkn Hmg
        go_wp2_with fail
        go_region_held3 (fun w' => w'.cell? ⟨b, o + n * 6 + 4, none⟩ = some (.int .i64 par))
          (first | exact p4 | exact p5 | exact p6 | exact p7 | go_keep)
          (first
            | (go_at_call 32; (first | (with_reducible refine (Hm2.out _ (.inl rfl)).mono ?_) | (with_reducible refine (Hm2.out _ (.inr rfl)).mono ?_)); rintro e w12 ⟨rfl, hx12⟩; have p5 := HPC.out w12 hx12; have Hx12 := Lib.hid hx12; clear hx12 Hm2)
            | (go_at_call 36; (with_reducible refine (Hnew.out _).mono ?_); rintro e w13 ⟨A13, c13, rfl, hr13, hb13⟩; have hx13 := bthen Hx12.out hb13; have p6 := HPC.out w13 hx13; have Hx13 := Lib.hid hx13; have Hr13 := Lib.hid hr13; clear hr13 hb13 hx13)
            | (go_at_call 32; (with_reducible refine (Hmn.out _ _ _ Hr13.out).mono ?_); rintro e w14 ⟨rfl, hb14⟩; have hx14 := bthen Hx13.out hb14; have p7 := HPC.out w14 hx14; have Hx14 := Lib.hid hx14; clear hb14 hx14))
        go_wp2_with fail
        go_ret
        exact ⟨rfl, bthen HB10.out (bthen Hbx.out Hx14.out)⟩
end Go.Proofs.Ytbbompmpecblgaa.LKinds
