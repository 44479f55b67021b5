/- The law ApplyFresh answers true at every input, and each argument reads afterwards as it read before; no condition. -/
import Derived.Test.YthdenkkllpkplaaGreatRows
import Derived.WalkKit
import Derived.ProofKit
import Derived.OpenShut
import Derived.ShutString
import Derived.ChangeOld
import Derived.Below
import Derived.SizedLaws
import Derived.Test.YthdenkkllpkplaaGreatC15
import Derived.Test.YthdenkkllpkplaaGreatC16
section
/- ApplyFresh. -/
namespace Go.Proofs.YthdenkkllpkplaaGreat.LFresh
open Go Go.RowKit Go.Proofs.YthdenkkllpkplaaGreat.Seq Go.Proofs.YthdenkkllpkplaaGreat.WS Go.Proofs.YthdenkkllpkplaaGreat.FS Go.Proofs.YthdenkkllpkplaaGreat.Mem Go.Proofs.YthdenkkllpkplaaGreat.Rd Go.Proofs.YthdenkkllpkplaaGreat.Shapes Go.Proofs.YthdenkkllpkplaaGreat.Word Go.Proofs.YthdenkkllpkplaaGreat.FFam Go.Proofs.YthdenkkllpkplaaGreat.Grown Go.Proofs.YthdenkkllpkplaaGreat.Ap
set_option linter.unusedVariables false
set_option linter.unusedSimpArgs false

set_option maxRecDepth 100000 in
set_option maxHeartbeats 8000000 in
theorem law_calls (w : World) (l : List Opn) (v : Value) (h : RdO w.heap.size w v l) (name text : ByteArray) (ak : Int) (hak : (Lit.int .u8 ak).wf = true) :
    Calls Tryz.prog 8 #[v, .string name, .string text, .int .u8 ak] w fun e w' => e = .returned (.bool true) ∧ Below w.heap.size w w' := by
  have hrd := fun w' (hb : Below w.heap.size w w') => (h.below opE_keeps (w' := w') hb (Nat.le_refl _)).mono opE_keeps hb.size
  have hbn := bounded_calls w v l h
  obtain ⟨A0, c0, rfl, hl0, hc0, _⟩ := h.form
  simp only [maxLen] at hc0
  have Hrd := Lib.hid hrd
  clear hrd h
  cases hB : bndO l with
  | false =>
    rw [hB] at hbn
    have Hbn := Lib.hid hbn
    clear hbn hB
    go_enter Tryz.func8, Tryz.ntmps8
    go_wp2_with (first | (go_at_call 18; (with_reducible refine (Hbn.out).mono ?_); rintro e w5 ⟨rfl, rfl⟩; clear Hbn) | (go_at_call 19; (with_reducible refine (shown_calls _).mono ?_); rintro e w6 ⟨rfl, hb6⟩; have Hb6 := Lib.hid hb6; clear hb6))
    go_ret
    exact ⟨rfl, Hb6.out⟩
  | true =>
    rw [hB] at hbn
    have Hbn := Lib.hid hbn
    clear hbn hB
    by_cases hn : 100 < name.size
    · have hn' : (100 : Int) < (name.size : Int) := by omega
      go_enter Tryz.func8, Tryz.ntmps8
      go_wp2_with (first | (go_at_call 18; (with_reducible refine (Hbn.out).mono ?_); rintro e w5 ⟨rfl, rfl⟩; clear Hbn) | (go_at_call 19; (with_reducible refine (shown_calls _).mono ?_); rintro e w6 ⟨rfl, hb6⟩; have Hb6 := Lib.hid hb6; clear hb6))
      go_ret
      exact ⟨rfl, Hb6.out⟩
    have hn' : ¬ (100 : Int) < (name.size : Int) := by omega
    by_cases htx : 100 < text.size
    · have ht' : (100 : Int) < (text.size : Int) := by omega
      go_enter Tryz.func8, Tryz.ntmps8
      go_wp2_with (first | (go_at_call 18; (with_reducible refine (Hbn.out).mono ?_); rintro e w5 ⟨rfl, rfl⟩; clear Hbn) | (go_at_call 19; (with_reducible refine (shown_calls _).mono ?_); rintro e w6 ⟨rfl, hb6⟩; have Hb6 := Lib.hid hb6; clear hb6))
      go_ret
      exact ⟨rfl, Hb6.out⟩
    have ht' : ¬ (100 : Int) < (text.size : Int) := by omega
    simp only [Lit.wf, Bool.and_eq_true, decide_eq_true_eq] at hak
    have ha0 : (0 : Int) ≤ ak := hak.1
    have ha1 : ak ≤ 255 := hak.2
    clear hak
    go_enter Tryz.func8, Tryz.ntmps8
    go_upto_region 4 with (first | (go_at_call 18; (with_reducible refine (Hbn.out).mono ?_); rintro e w5 ⟨rfl, rfl⟩; clear Hbn) | (go_at_call 19; (with_reducible refine (shown_calls _).mono ?_); rintro e w6 ⟨rfl, hb6⟩; have Hb6 := Lib.hid hb6; clear hb6) | (go_at_call 20; (with_reducible refine (FNew.New_calls _).mono ?_); rintro e w7 ⟨v7, rfl, hr7, hb7⟩; have Hr7 := Lib.hid hr7; have Hb7 := Lib.hid (bthen Hb6.out hb7); clear hr7 hb7))
    go_wp2_with fail
    go_loopw [9, 10] (fun v i wr => ∃ k : Nat, k ≤ l.length ∧ i = .int .i64 k ∧ RdF wr.heap.size wr v (growF (l.take k)) ∧ Below w.heap.size w wr) (fun _ i _ => l.length - (intOf i).toNat)
    case atStart => exact ⟨0, Nat.zero_le _, rfl, Hr7.out, Hb7.out⟩
    case round =>
      obtain ⟨k, hk, rfl, hr, hb⟩ := hrel
      have hmg := grow_may (l.take k)
      by_cases hlt : k < l.length
      · obtain ⟨b, o1, rfl, hbl, g0, g1, g2, g3, g4, g5, m1, m2, m3, m4⟩ := op_at (Hrd.out _ hb) hlt
        have hone := Doings.one_calls wr _ _ l[k] hr hmg m1 m2 m3 m4
        have hs : growF (l.take (k + 1)) = oneF (growF (l.take k)) l[k] := by rw [List.take_succ_eq_append_getElem hlt, grow_snoc]
        obtain ⟨A3, c3, rfl, _, _, _⟩ := hr.form
        have Hone := Lib.hid hone; have Hs := Lib.hid hs; have Hb := Lib.hid hb
        clear hone hs hb hr hmg m1 m2 m3 m4
        generalize l[k] = x at *
        go_wp2_with (go_at_call 21; ((with_reducible refine (Hone.out).mono ?_); rintro e w8 ⟨v8, rfl, hr8, hb8⟩; have Hr8 := Lib.hid hr8; have Hb8 := Lib.hid hb8; clear hr8 hb8))
        go_roundw
        case rel => exact ⟨k + 1, by omega, by go_num, by rw [Hs.out]; exact Hr8.out, bthen Hb.out Hb8.out⟩
        case measure => simp [intOf]; omega
      · have hl : growF (l.take k) = growF l := by rw [List.take_of_length_le (by omega)]
        rw [hl] at hr hmg
        obtain ⟨f, hf⟩ : ∃ f, f = growF l := ⟨_, rfl⟩
        rw [← hf] at hr hmg
        obtain rfl : k = l.length := by omega
        have hlen := may_len hmg
        obtain ⟨A7, c7, rfl, hl7, hc7, hr7⟩ := hr.form
        simp only [maxLen] at hc7
        obtain ⟨b7, o7, _, rfl, hb7lt, _⟩ := hr7.at_ (i := 0) (by omega)
        have Hm := Lib.hid hmg; have HR := Lib.hid hr7; have Hb := Lib.hid hb
        clear hl hf hmg hr hr7 hb hlt hk hb7lt Hrd Hr7 Hb7
        have hone := fun (o : Opn) (ho : OkO o) w' (hb : Below wr.heap.size wr w') => Doings.one_calls w' _ f o ((HR.out.below nodeE_keeps (w' := w') hb (Nat.le_refl _)).mono nodeE_keeps hb.size) Hm.out ho.1 ho.2.1 ho.2.2.2.1 ho.2.2.2.2.1
        unfold Doings.OnePost at hone
        have hr3 : ak % 3 = 0 ∨ ak % 3 = 1 ∨ ak % 3 = 2 := by omega
        have hm3 : Int.tmod ak 3 = ak % 3 := Int.tmod_eq_emod_of_nonneg ha0
        have Hone := Lib.hid hone
        clear hone
        have hko : ∃ o : Opn, OkO o ∧ mayO o = true ∧ o.kind ≤ 3 ∧ ((ak % 3 = 0 ∧ o = { kind := 1, name := name }) ∨ (ak % 3 ≠ 0 ∧ o = { kind := 1 + ak % 3, text := text })) := by
          rcases hr3 with e | e | e
          · exact ⟨{ kind := 1, name := name }, ⟨show name.size ≤ maxLen by simp only [maxLen]; omega, show (0 : Nat) ≤ maxLen by decide, rfl, rfl, rfl, rfl⟩, mayO_1 (by omega), show (1 : Int) ≤ 3 by decide, .inl ⟨e, rfl⟩⟩
          · exact ⟨{ kind := 1 + ak % 3, text := text }, ⟨show (0 : Nat) ≤ maxLen by decide, show text.size ≤ maxLen by simp only [maxLen]; omega, by rw [e]; rfl, rfl, rfl, rfl⟩, by rw [e]; exact mayO_23 (.inl rfl) (by omega), show 1 + ak % 3 ≤ 3 by omega, .inr ⟨by omega, rfl⟩⟩
          · exact ⟨{ kind := 1 + ak % 3, text := text }, ⟨show (0 : Nat) ≤ maxLen by decide, show text.size ≤ maxLen by simp only [maxLen]; omega, by rw [e]; rfl, rfl, rfl, rfl⟩, by rw [e]; exact mayO_23 (.inr rfl) (by omega), show 1 + ak % 3 ≤ 3 by omega, .inr ⟨by omega, rfl⟩⟩
        obtain ⟨o, hok, hmo, hkd, ho⟩ := hko
        rcases ho with ⟨e, rfl⟩ | ⟨e, rfl⟩
        · have q1 : ¬ (0 < ak % 3) := by omega
          clear hm3 hr3
          go_upto_region 11 with fail
          clear q1 e ha0 ha1 hn' ht'
          have hfr := one_fresh Hm.out hmo hkd
          have hone : ∀ w', Below wr.heap.size wr w' → Calls Tryz.prog 21 #[.slice (some ⟨b7, o7, none⟩) f.length c7, .agg #[.int .i64 1, .int .i64 0, .int .i64 0, .int .i64 0, .string name, .string ⟨#[]⟩]] w' fun e w'' => ∃ v', e = .returned (.tuple #[v', .int .i64 (oneE f { kind := 1, name := name, text := ⟨#[]⟩ })]) ∧ RdF w''.heap.size w'' v' (oneF f { kind := 1, name := name, text := ⟨#[]⟩ }) ∧ Below w'.heap.size w' w'' := fun w' hb => Hone.out _ hok w' hb
          obtain ⟨W1, hW1⟩ : ∃ W1, wr.alloc (.cells #[.int .i64 1, .int .i64 0, .int .i64 0, .int .i64 0, .string name, .string ⟨#[]⟩] 24) = W1 := ⟨_, rfl⟩
          have hrow : W1.heap[wr.heap.size]? = some (.cells #[.int .i64 1, .int .i64 0, .int .i64 0, .int .i64 0, .string name, .string ⟨#[]⟩] 24 (0, 0)) := by rw [← hW1]; exact World.alloc_heap_new wr _
          have hb1 : Below wr.heap.size wr W1 := by rw [← hW1]; exact (Below.refl _ _).alloc (Nat.le_refl _) _
          have hbox := fun w' (hb : Below W1.heap.size W1 w') => OpMay.op_cells (o := { kind := 1, name := name, text := ⟨#[]⟩ }) ((hb.block wr.heap.size (lt_heap hrow)).trans hrow)
          obtain ⟨z0, z1, z2, z3, z4, z5, zf⟩ := hbox W1 (Below.refl _ _)
          simp only at z0 z1 z2 z3 z4 z5
          simp only at hfr hkd
          rw [hW1]
          have Hb1 := Lib.hid hb1; have Hbox := Lib.hid hbox
          rcases hfr with ⟨e1, e2⟩ | ⟨e1, e2⟩
          · rw [e1, e2] at hone
            have Hone1 := Lib.hid hone
            clear hone hb1 hbox hW1 hrow hmo hok hkd e1 e2 Hone
            go_upto_region 15 with (go_at_call 21; ((with_reducible refine (Hone1.out _ Hb1.out).mono ?_); rintro e w9 ⟨v9, rfl, hr9, hb9⟩; obtain ⟨A9, c9, rfl, hl9, hc9, hr9'⟩ := hr9.form; have Hr9 := Lib.hid hr9'; have Hb9 := Lib.hid hb9; clear hr9 hr9' hb9))
            have hGl : (f ++ [({ kind := 1, name := name, text := ⟨#[]⟩, parent := -1 } : Nd)]).length = f.length + 1 := by simp
            rw [hGl] at hl9
            simp only [maxLen] at hc9
            have hnG : f.length < (f ++ [({ kind := 1, name := name, text := ⟨#[]⟩, parent := -1 } : Nd)]).length := by omega
            have hnd : (f ++ [({ kind := 1, name := name, text := ⟨#[]⟩, parent := -1 } : Nd)])[f.length] = { kind := 1, name := name, text := ⟨#[]⟩, parent := -1 } := by simp
            have hnode := fun w' (hb : Below w9.heap.size w9 w') => node_at (Hr9.out.below nodeE_keeps (w' := w') hb (Nat.le_refl _)) hnG
            rw [hnd] at hnode
            simp only [List.length_nil] at hnode
            obtain ⟨b9, o9, Aa, ca, Ak, ck, hA9, _, d0, d1, d2, d3, d4, d5, _, _, _, hca, _, hck, _, _, _, _⟩ := hnode w9 (Below.refl _ _)
            subst hA9
            simp only [maxLen] at hca hck
            have hcells := fun w' (hb : Below w9.heap.size w9 w') => (⟨cell_grow hb d0, cell_grow hb d1, cell_grow hb d2, cell_grow hb d3, cell_grow hb d4, cell_grow hb d5, (Hbox.out w' (bthen Hb9.out hb)).1, (Hbox.out w' (bthen Hb9.out hb)).2.2.2.2.1, (Hbox.out w' (bthen Hb9.out hb)).2.2.2.2.2.1⟩ : w'.cell? ⟨b9, o9 + f.length * 6, none⟩ = some (.int .i64 1) ∧ w'.cell? ⟨b9, o9 + f.length * 6 + 1, none⟩ = some (.string name) ∧ w'.cell? ⟨b9, o9 + f.length * 6 + 2, none⟩ = some (.string ⟨#[]⟩) ∧ w'.cell? ⟨b9, o9 + f.length * 6 + 3, none⟩ = some (.slice Aa 0 ca) ∧ w'.cell? ⟨b9, o9 + f.length * 6 + 4, none⟩ = some (.int .i64 (-1)) ∧ w'.cell? ⟨b9, o9 + f.length * 6 + 5, none⟩ = some (.slice Ak 0 ck) ∧
                w'.cell? ⟨wr.heap.size, 0, none⟩ = some (.int .i64 1) ∧ w'.cell? ⟨wr.heap.size, 4, none⟩ = some (.string name) ∧ w'.cell? ⟨wr.heap.size, 5, none⟩ = some (.string ⟨#[]⟩))
            have hsame : ∀ w', Below w9.heap.size w9 w' → Calls Tryz.prog 28 #[.slice (some ⟨b9, o9, none⟩) f.length c9, .slice (some ⟨b7, o7, none⟩) f.length c7] w' fun e w'' => e = .returned (.bool true) ∧ Below w9.heap.size w9 w'' := fun w' hb' => by
              have hr9 := (Hr9.out.below nodeE_keeps (w' := w') hb' (Nat.le_refl _)).mono nodeE_keeps hb'.size
              rw [hGl] at hr9
              have r1 := hr9.part (i := 0) (m := f.length) (by rw [hGl]; omega)
              rw [Nat.zero_mul, Nat.add_zero, Nat.sub_zero, List.drop_zero, List.take_left] at r1
              have hb0 := bthen Hb1.out (bthen Hb9.out hb')
              have := FSameF.Same_calls w' _ _ f f r1 ((HR.out.below nodeE_keeps (w' := w') hb0 (Nat.le_refl _)).mono nodeE_keeps hb0.size)
              rw [decide_eq_true rfl] at this
              exact this.mono (fun e w'' hx => ⟨hx.1, bthen hb' hx.2⟩)
            obtain ⟨_, _, _, _, _, _, x1, x2, x3⟩ := hcells w9 (Below.refl _ _)
            have p1 : IntKind.i64.wrap ((f.length : Int) + 1) = (f.length : Int) + 1 := by rw [IntKind.wrap_i64]; omega
            have p2 : ¬ c9 = 0 := by omega
            have p3 : (f.length : Int) ≤ (c9 : Int) := by omega
            have p4 : (0 : Int) ≤ (f.length : Int) := by omega
            have p5 : (f.length : Int) < (f.length : Int) + 1 := by omega
            have Hsame := Lib.hid hsame; have Hcells := Lib.hid hcells
            clear hsame hcells hnode hnd hnG Hone1 z0 z1 z2 z3 z4 z5 zf
            try rw [hGl]
            dsimp only [List.append_eq, List.cons_append, List.nil_append]
            go_region_held3 (fun w' => w'.cell? ⟨b9, o9 + f.length * 6, none⟩ = some (.int .i64 1) ∧ w'.cell? ⟨b9, o9 + f.length * 6 + 1, none⟩ = some (.string name) ∧ w'.cell? ⟨b9, o9 + f.length * 6 + 2, none⟩ = some (.string ⟨#[]⟩) ∧ w'.cell? ⟨b9, o9 + f.length * 6 + 3, none⟩ = some (.slice Aa 0 ca) ∧ w'.cell? ⟨b9, o9 + f.length * 6 + 4, none⟩ = some (.int .i64 (-1)) ∧ w'.cell? ⟨b9, o9 + f.length * 6 + 5, none⟩ = some (.slice Ak 0 ck) ∧
                w'.cell? ⟨wr.heap.size, 0, none⟩ = some (.int .i64 1) ∧ w'.cell? ⟨wr.heap.size, 4, none⟩ = some (.string name) ∧ w'.cell? ⟨wr.heap.size, 5, none⟩ = some (.string ⟨#[]⟩))
              (first | exact ⟨d0, d1, d2, d3, d4, d5, x1, x2, x3⟩ | exact y10 | go_keep)
              (first | (go_at_call 28; (first | (with_reducible refine (Hsame.out _ (Below.refl _ _)).mono ?_) | (with_reducible refine (Hsame.out _ (Below.refl _ _).drew).mono ?_)); rintro e w10 ⟨rfl, hb10⟩; have y10 := Hcells.out w10 hb10; have Hb10 := Lib.hid hb10; clear hb10))
            go_wp2_with fail
            go_ret
            exact ⟨rfl, bthen Hb.out (bthen Hb1.out (bthen Hb9.out Hb10.out))⟩
          · rw [e2] at hone
            have Hone1 := Lib.hid hone
            have hsame := fun w' (hb : Below wr.heap.size wr w') v9 (hr9 : RdF w'.heap.size w' v9 f) => FSameF.Same_calls w' _ v9 f f ((HR.out.below nodeE_keeps (w' := w') hb (Nat.le_refl _)).mono nodeE_keeps hb.size) hr9
            simp only [decide_true] at hsame
            have Hsame := Lib.hid hsame
            clear hone hb1 hbox hW1 hrow hmo hok hkd e2 Hone hsame
            generalize oneE f { kind := 1, name := name, text := ⟨#[]⟩ } = E at *
            rcases e1 with rfl | ⟨rfl, hf60⟩
            · go_wp2_with (first
                | (go_at_call 21; ((with_reducible refine (Hone1.out _ Hb1.out).mono ?_); rintro e w9 ⟨v9, rfl, hr9, hb9⟩; have Hr9 := Lib.hid hr9; have Hb9 := Lib.hid (bthen Hb1.out hb9); clear hr9 hb9))
                | (go_at_call 28; ((with_reducible refine (Hsame.out _ Hb9.out _ Hr9.out).mono ?_); rintro e w10 ⟨rfl, hb10⟩; have Hb10 := Lib.hid (bthen Hb9.out hb10); clear hb10)))
              go_ret
              exact ⟨rfl, bthen Hb.out Hb10.out⟩
            · have hf' : ((f.length : Int) == 60) = true := by rw [beq_iff_eq, hf60]; rfl
              clear hf60
              go_wp2_with (first
                | (go_at_call 21; ((with_reducible refine (Hone1.out _ Hb1.out).mono ?_); rintro e w9 ⟨v9, rfl, hr9, hb9⟩; have Hr9 := Lib.hid hr9; have Hb9 := Lib.hid (bthen Hb1.out hb9); clear hr9 hb9))
                | (go_at_call 28; ((with_reducible refine (Hsame.out _ Hb9.out _ Hr9.out).mono ?_); rintro e w10 ⟨rfl, hb10⟩; have Hb10 := Lib.hid (bthen Hb9.out hb10); clear hb10)))
              go_ret
              exact ⟨rfl, bthen Hb.out Hb10.out⟩
        · have q1 : 0 < ak % 3 := by omega
          have q2 : IntKind.i64.wrap (1 + ak % 3) = 1 + ak % 3 := by rw [IntKind.wrap_i64]; omega
          clear hr3
          go_upto_region 11 with fail
          clear q1 q2 e ha0 ha1 hn' ht' hm3
          generalize 1 + ak % 3 = kd at *
          have hfr := one_fresh Hm.out hmo hkd
          have hone : ∀ w', Below wr.heap.size wr w' → Calls Tryz.prog 21 #[.slice (some ⟨b7, o7, none⟩) f.length c7, .agg #[.int .i64 kd, .int .i64 0, .int .i64 0, .int .i64 0, .string ⟨#[]⟩, .string text]] w' fun e w'' => ∃ v', e = .returned (.tuple #[v', .int .i64 (oneE f { kind := kd, name := ⟨#[]⟩, text := text })]) ∧ RdF w''.heap.size w'' v' (oneF f { kind := kd, name := ⟨#[]⟩, text := text }) ∧ Below w'.heap.size w' w'' := fun w' hb => Hone.out _ hok w' hb
          obtain ⟨W1, hW1⟩ : ∃ W1, wr.alloc (.cells #[.int .i64 kd, .int .i64 0, .int .i64 0, .int .i64 0, .string ⟨#[]⟩, .string text] 24) = W1 := ⟨_, rfl⟩
          have hrow : W1.heap[wr.heap.size]? = some (.cells #[.int .i64 kd, .int .i64 0, .int .i64 0, .int .i64 0, .string ⟨#[]⟩, .string text] 24 (0, 0)) := by rw [← hW1]; exact World.alloc_heap_new wr _
          have hb1 : Below wr.heap.size wr W1 := by rw [← hW1]; exact (Below.refl _ _).alloc (Nat.le_refl _) _
          have hbox := fun w' (hb : Below W1.heap.size W1 w') => OpMay.op_cells (o := { kind := kd, name := ⟨#[]⟩, text := text }) ((hb.block wr.heap.size (lt_heap hrow)).trans hrow)
          obtain ⟨z0, z1, z2, z3, z4, z5, zf⟩ := hbox W1 (Below.refl _ _)
          simp only at z0 z1 z2 z3 z4 z5
          simp only at hfr hkd
          rw [hW1]
          have Hb1 := Lib.hid hb1; have Hbox := Lib.hid hbox
          rcases hfr with ⟨e1, e2⟩ | ⟨e1, e2⟩
          · rw [e1, e2] at hone
            have Hone1 := Lib.hid hone
            clear hone hb1 hbox hW1 hrow hmo hok hkd e1 e2 Hone
            go_upto_region 15 with (go_at_call 21; ((with_reducible refine (Hone1.out _ Hb1.out).mono ?_); rintro e w9 ⟨v9, rfl, hr9, hb9⟩; obtain ⟨A9, c9, rfl, hl9, hc9, hr9'⟩ := hr9.form; have Hr9 := Lib.hid hr9'; have Hb9 := Lib.hid hb9; clear hr9 hr9' hb9))
            have hGl : (f ++ [({ kind := kd, name := ⟨#[]⟩, text := text, parent := -1 } : Nd)]).length = f.length + 1 := by simp
            rw [hGl] at hl9
            simp only [maxLen] at hc9
            have hnG : f.length < (f ++ [({ kind := kd, name := ⟨#[]⟩, text := text, parent := -1 } : Nd)]).length := by omega
            have hnd : (f ++ [({ kind := kd, name := ⟨#[]⟩, text := text, parent := -1 } : Nd)])[f.length] = { kind := kd, name := ⟨#[]⟩, text := text, parent := -1 } := by simp
            have hnode := fun w' (hb : Below w9.heap.size w9 w') => node_at (Hr9.out.below nodeE_keeps (w' := w') hb (Nat.le_refl _)) hnG
            rw [hnd] at hnode
            simp only [List.length_nil] at hnode
            obtain ⟨b9, o9, Aa, ca, Ak, ck, hA9, _, d0, d1, d2, d3, d4, d5, _, _, _, hca, _, hck, _, _, _, _⟩ := hnode w9 (Below.refl _ _)
            subst hA9
            simp only [maxLen] at hca hck
            have hcells := fun w' (hb : Below w9.heap.size w9 w') => (⟨cell_grow hb d0, cell_grow hb d1, cell_grow hb d2, cell_grow hb d3, cell_grow hb d4, cell_grow hb d5, (Hbox.out w' (bthen Hb9.out hb)).1, (Hbox.out w' (bthen Hb9.out hb)).2.2.2.2.1, (Hbox.out w' (bthen Hb9.out hb)).2.2.2.2.2.1⟩ : w'.cell? ⟨b9, o9 + f.length * 6, none⟩ = some (.int .i64 kd) ∧ w'.cell? ⟨b9, o9 + f.length * 6 + 1, none⟩ = some (.string ⟨#[]⟩) ∧ w'.cell? ⟨b9, o9 + f.length * 6 + 2, none⟩ = some (.string text) ∧ w'.cell? ⟨b9, o9 + f.length * 6 + 3, none⟩ = some (.slice Aa 0 ca) ∧ w'.cell? ⟨b9, o9 + f.length * 6 + 4, none⟩ = some (.int .i64 (-1)) ∧ w'.cell? ⟨b9, o9 + f.length * 6 + 5, none⟩ = some (.slice Ak 0 ck) ∧
                w'.cell? ⟨wr.heap.size, 0, none⟩ = some (.int .i64 kd) ∧ w'.cell? ⟨wr.heap.size, 4, none⟩ = some (.string ⟨#[]⟩) ∧ w'.cell? ⟨wr.heap.size, 5, none⟩ = some (.string text))
            have hsame : ∀ w', Below w9.heap.size w9 w' → Calls Tryz.prog 28 #[.slice (some ⟨b9, o9, none⟩) f.length c9, .slice (some ⟨b7, o7, none⟩) f.length c7] w' fun e w'' => e = .returned (.bool true) ∧ Below w9.heap.size w9 w'' := fun w' hb' => by
              have hr9 := (Hr9.out.below nodeE_keeps (w' := w') hb' (Nat.le_refl _)).mono nodeE_keeps hb'.size
              rw [hGl] at hr9
              have r1 := hr9.part (i := 0) (m := f.length) (by rw [hGl]; omega)
              rw [Nat.zero_mul, Nat.add_zero, Nat.sub_zero, List.drop_zero, List.take_left] at r1
              have hb0 := bthen Hb1.out (bthen Hb9.out hb')
              have := FSameF.Same_calls w' _ _ f f r1 ((HR.out.below nodeE_keeps (w' := w') hb0 (Nat.le_refl _)).mono nodeE_keeps hb0.size)
              rw [decide_eq_true rfl] at this
              exact this.mono (fun e w'' hx => ⟨hx.1, bthen hb' hx.2⟩)
            obtain ⟨_, _, _, _, _, _, x1, x2, x3⟩ := hcells w9 (Below.refl _ _)
            have p1 : IntKind.i64.wrap ((f.length : Int) + 1) = (f.length : Int) + 1 := by rw [IntKind.wrap_i64]; omega
            have p2 : ¬ c9 = 0 := by omega
            have p3 : (f.length : Int) ≤ (c9 : Int) := by omega
            have p4 : (0 : Int) ≤ (f.length : Int) := by omega
            have p5 : (f.length : Int) < (f.length : Int) + 1 := by omega
            have Hsame := Lib.hid hsame; have Hcells := Lib.hid hcells
            clear hsame hcells hnode hnd hnG Hone1 z0 z1 z2 z3 z4 z5 zf
            try rw [hGl]
            dsimp only [List.append_eq, List.cons_append, List.nil_append]
            go_region_held3 (fun w' => w'.cell? ⟨b9, o9 + f.length * 6, none⟩ = some (.int .i64 kd) ∧ w'.cell? ⟨b9, o9 + f.length * 6 + 1, none⟩ = some (.string ⟨#[]⟩) ∧ w'.cell? ⟨b9, o9 + f.length * 6 + 2, none⟩ = some (.string text) ∧ w'.cell? ⟨b9, o9 + f.length * 6 + 3, none⟩ = some (.slice Aa 0 ca) ∧ w'.cell? ⟨b9, o9 + f.length * 6 + 4, none⟩ = some (.int .i64 (-1)) ∧ w'.cell? ⟨b9, o9 + f.length * 6 + 5, none⟩ = some (.slice Ak 0 ck) ∧
                w'.cell? ⟨wr.heap.size, 0, none⟩ = some (.int .i64 kd) ∧ w'.cell? ⟨wr.heap.size, 4, none⟩ = some (.string ⟨#[]⟩) ∧ w'.cell? ⟨wr.heap.size, 5, none⟩ = some (.string text))
              (first | exact ⟨d0, d1, d2, d3, d4, d5, x1, x2, x3⟩ | exact y10 | go_keep)
              (first | (go_at_call 28; (first | (with_reducible refine (Hsame.out _ (Below.refl _ _)).mono ?_) | (with_reducible refine (Hsame.out _ (Below.refl _ _).drew).mono ?_)); rintro e w10 ⟨rfl, hb10⟩; have y10 := Hcells.out w10 hb10; have Hb10 := Lib.hid hb10; clear hb10))
            go_wp2_with fail
            go_ret
            exact ⟨rfl, bthen Hb.out (bthen Hb1.out (bthen Hb9.out Hb10.out))⟩
          · rw [e2] at hone
            have Hone1 := Lib.hid hone
            have hsame := fun w' (hb : Below wr.heap.size wr w') v9 (hr9 : RdF w'.heap.size w' v9 f) => FSameF.Same_calls w' _ v9 f f ((HR.out.below nodeE_keeps (w' := w') hb (Nat.le_refl _)).mono nodeE_keeps hb.size) hr9
            simp only [decide_true] at hsame
            have Hsame := Lib.hid hsame
            clear hone hb1 hbox hW1 hrow hmo hok hkd e2 Hone hsame
            generalize oneE f { kind := kd, name := ⟨#[]⟩, text := text } = E at *
            rcases e1 with rfl | ⟨rfl, hf60⟩
            · go_wp2_with (first
                | (go_at_call 21; ((with_reducible refine (Hone1.out _ Hb1.out).mono ?_); rintro e w9 ⟨v9, rfl, hr9, hb9⟩; have Hr9 := Lib.hid hr9; have Hb9 := Lib.hid (bthen Hb1.out hb9); clear hr9 hb9))
                | (go_at_call 28; ((with_reducible refine (Hsame.out _ Hb9.out _ Hr9.out).mono ?_); rintro e w10 ⟨rfl, hb10⟩; have Hb10 := Lib.hid (bthen Hb9.out hb10); clear hb10)))
              go_ret
              exact ⟨rfl, bthen Hb.out Hb10.out⟩
            · have hf' : ((f.length : Int) == 60) = true := by rw [beq_iff_eq, hf60]; rfl
              clear hf60
              go_wp2_with (first
                | (go_at_call 21; ((with_reducible refine (Hone1.out _ Hb1.out).mono ?_); rintro e w9 ⟨v9, rfl, hr9, hb9⟩; have Hr9 := Lib.hid hr9; have Hb9 := Lib.hid (bthen Hb1.out hb9); clear hr9 hb9))
                | (go_at_call 28; ((with_reducible refine (Hsame.out _ Hb9.out _ Hr9.out).mono ?_); rintro e w10 ⟨rfl, hb10⟩; have Hb10 := Lib.hid (bthen Hb9.out hb10); clear hb10)))
              go_ret
              exact ⟨rfl, bthen Hb.out Hb10.out⟩
end Go.Proofs.YthdenkkllpkplaaGreat.LFresh
end
section
/- The law ApplyFresh answers true at every input, and each argument reads afterwards as it read before; no condition. -/
namespace Go.Proofs.YthdenkkllpkplaaGreat.applyFresh
open Go.ChangeShapes Go.WideShapes Go.ChangeAt Go.RowKit
open Go.ChangeMaps (open_string shut_string)
set_option linter.unusedVariables false
theorem own : ownKnob Tryz.prog.godebug = none := by kernel_rfl
theorem laidOut : laidOutB Tryz.prog = true := by kernel_rfl
set_option maxRecDepth 100000 in
theorem lifted (os : Os) (started : os.Started) (H : Type) (enc : TypeId × Value → H) :
    ReturnsInHanded {} Tryz.checked os 8 .any (Rows.applyFreshSpec.pre6 enc Tryz.prog Tryz.f8 Rows.applyFreshRow.domain false) (Rows.applyFreshSpec.post enc Tryz.prog Tryz.f8 false true false false) := by
  refine returnsInHanded_of_change_sized (C := Tryz.checked) own started (by kernel_rfl) Tryz.func8
    (ChangeSpec.witness6 (enc := enc) (C := Tryz.checked) false ⟨#[], #[.slice none 0 0, .string ByteArray.empty, .string ByteArray.empty, .int .u8 0], []⟩ 8 (by kernel_rfl) (by kernel_rfl) (by kernel_rfl) (by kernel_rfl)) ?_
  intro W base args ds gs before hval0 hW hcnd hsz0 _
  have hsz : (DataW.weightsEach Tryz.prog (Tryz.f8.params.toList ++ Rows.applyFreshSpec.plain.varTypes Tryz.prog) (ds ++ gs)).all (· ≤ reachBytes) = true := hsz0
  have hval : ∀ (j : Nat) t v, Tryz.f8.params[j]? = some t → args[j]? = some v → Value.okWide Tryz.prog W .any base t v := hval0
  have hW' := hW
  obtain ⟨p, q, hA0, hV, rfl, hfz, hnd⟩ := hW
  have hA : DataW.TrodAll enc Tryz.prog W 0 (fun _ => true) true Tryz.f8.params.toList args.toList ds p := hA0
  rw [Tryz.params8] at hA hval hsz
  obtain ⟨v0, vs0, d0, ds0, p0, q0, hargs, rfl, rfl, h0, r0⟩ := trodAll_cons hA
  obtain ⟨v1, vs1, d1, ds1, p1, q1, rfl, rfl, rfl, h1, r1⟩ := trodAll_cons r0
  obtain ⟨v2, vs2, d2, ds2, p2, q2, rfl, rfl, rfl, h2, r2⟩ := trodAll_cons r1
  obtain ⟨v3, vs3, d3, ds3, p3, q3, rfl, rfl, rfl, h3, r3⟩ := trodAll_cons r2
  obtain ⟨rfl, rfl, rfl⟩ := trodAll_nil r3
  obtain rfl : args = #[v0, v1, v2, v3] := by cases args; simp_all
  obtain ⟨rfl, rfl⟩ := trodVars_none hV
  have k0 := h0
  have lt0 : ∀ x ∈ p0, x.block < W.heap.size := by obtain ⟨m, hm⟩ := k0; exact DataW.trod_lt m _ _ _ hm
  obtain ⟨l0, x0⟩ := Rd.open_list 6 Tryz.underlying22 (by kernel_rfl) (by decide) Shapes.opens_op_Op (hval 0 22 v0 rfl rfl) h0
  obtain ⟨a1, rfl, rfl, rfl, y1⟩ := open_string Tryz.underlying9 (hval 1 9 v1 rfl rfl) h1
  obtain ⟨a2, rfl, rfl, rfl, y2⟩ := open_string Tryz.underlying9 (hval 2 9 v2 rfl rfl) h2
  obtain ⟨a3, rfl, rfl, rfl, w3⟩ := open_int Tryz.underlying5 (hval 3 5 v3 rfl rfl) h3
  clear hA0 hval0 hsz0 hsz
  refine (LFresh.law_calls W l0 v0 x0 a1 a2 a3 w3).mono fun e W' ⟨he, bel⟩ => ?_
  subst he
  exact ⟨_, rfl, _, _, _, [], _, [], hW', trodAll_mk1 (shut_bool Tryz.underlying4 _), (trodAll_cons_mk (Below.trod laidOut (by kernel_rfl) (of_decide_eq_true (by kernel_rfl)) k0 bel lt0) (trodAll_cons_mk (shut_string Tryz.underlying9 y1) (trodAll_cons_mk (shut_string Tryz.underlying9 y2) (trodAll_cons_mk (shut_int Tryz.underlying5 w3) trodAll_mk0)))), rfl, bel.frame _, fun h => by cases h⟩
set_option maxHeartbeats 20000000 in
theorem closed : joinedFacts Tryz.pinned.checked.prog 8 Tryz.f8 Rows.applyFreshSpec Rows.applyFreshRow = true := by
  unfold joinedFacts
  repeat' (with_reducible refine Bool.and_eq_true_iff.2 ⟨?_, ?_⟩)
  all_goals as_aux_lemma => kernel_rfl
theorem over : Rows.applyFreshRow.holds Tryz.pinned (OpenSpec.ofChange Rows.applyFreshSpec) :=
  OpenClaim.holds_of_wide 8 Tryz.f8 rfl rfl rfl rfl rfl rfl rfl ⟨rfl, rfl, rfl, rfl, rfl⟩ rfl rfl rfl rfl rfl (by kernel_rfl) Tryz.func8 closed
    (of_decide_eq_true (by kernel_rfl)) (by unfold Func.isWrapper; first | (rw [if_pos (by decide +kernel)]; kernel_rfl) | (rw [if_neg (by decide +kernel)]; exact ⟨rfl, rfl⟩))
    (fun os started H enc _ => lifted os started H enc)
theorem proved : Rows.ApplyFreshSaid := over
end Go.Proofs.YthdenkkllpkplaaGreat.applyFresh
namespace Go.Proofs.YthdenkkllpkplaaGreat
/-- The row, under a short name, for the claim. -/
theorem applyFresh_holds : Rows.ApplyFreshSaid := applyFresh.proved
#print axioms applyFresh_holds
end Go.Proofs.YthdenkkllpkplaaGreat
end
