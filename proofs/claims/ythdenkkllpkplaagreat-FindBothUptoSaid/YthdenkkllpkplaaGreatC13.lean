/- Joined by a program: AInsD, ALiesB, AOneA. -/
import Derived.Deep.RegionHeld3
import Derived.Test.YthdenkkllpkplaaGreatC12
import Derived.Test.YthdenkkllpkplaaGreatC09
import Derived.Test.YthdenkkllpkplaaGreatC10
section
/- apply: a node is laid into another one. -/
namespace Go.Proofs.YthdenkkllpkplaaGreat.Work
open Go Go.RowKit Go.Proofs.YthdenkkllpkplaaGreat.Seq Go.Proofs.YthdenkkllpkplaaGreat.WS Go.Proofs.YthdenkkllpkplaaGreat.FS Go.Proofs.YthdenkkllpkplaaGreat.Mem Go.Proofs.YthdenkkllpkplaaGreat.Rd Go.Proofs.YthdenkkllpkplaaGreat.Shapes Go.Proofs.YthdenkkllpkplaaGreat.Word Go.Proofs.YthdenkkllpkplaaGreat.FFam Go.Proofs.YthdenkkllpkplaaGreat.OwnF
set_option linter.unusedVariables false
set_option linter.unusedSimpArgs false

theorem own_base {w : World} {B B' : Nat} {e : TypeId} {size : Nat} {v : Value} {n : Nat} {xs : List Value} (h : w.ownsRow B e size v n xs) (hB : B' ≤ B) : w.ownsRow B' e size v n xs := by
  obtain ⟨h1, h2⟩ := h
  refine ⟨h1, ?_⟩
  rcases h2 with h2 | ⟨g, cap, cur, rfl, hb, r⟩
  · exact .inl h2
  · exact .inr ⟨g, cap, cur, rfl, Nat.le_trans hB hb, r⟩
theorem filter_len {l : List Int} (hn : l.Nodup) (x : Int) : (l.filter (· != x)).length = l.length - if x ∈ l then 1 else 0 := by
  have h1 := List.length_eq_countP_add_countP (fun y => y != x) (l := l)
  rw [List.countP_eq_length_filter] at h1
  have h2 : l.countP (fun a => decide ¬(a != x) = true) = l.count x := by
    unfold List.count
    apply List.countP_congr
    intro y _
    simp
  have h3 := (List.nodup_iff_count.1 hn) x
  split
  · rename_i hm
    have := List.count_pos_iff.2 hm
    omega
  · rename_i hm
    have := List.count_eq_zero_of_not_mem hm
    omega
section
variable [Avoid] {base wk g c : Nat} {o : Opn} {f : Fo}
end
section
variable {base wk g c : Nat} {o : Opn} {f : Fo}
/-- What lies in To when the node has been taken out. -/
theorem insert_kids (hm : mayB f = true) {i t : Nat} (hi : i < f.length) (ht : t < f.length) (p : Int) : (at_ ((takeF f i).set i { at_ (takeF f i) (i : Int) with parent := p }) (t : Int)).kids = (at_ f (t : Int)).kids.filter (· != (i : Int)) := by
  rw [FS.set_at (by rw [take_length]; exact hi), take_at (may_is hm) hi, take_at (may_is hm) hi]
  split
  · rename_i e; rw [e]
  · rfl
end
section
variable [Avoid] {base wk g c : Nat} {o : Opn} {f : Fo}
end
section
variable {base wk g c : Nat} {o : Opn} {f : Fo}
theorem fits_len (hm : mayB f = true) {i t : Nat} (hoi : o.id = i) (hot : o.to = t) (hi : i < f.length) (ht : t < f.length) (hf : fitsB f o = true) : ∃ a : Nat, o.at_ = a ∧ a ≤ ((at_ f (t : Int)).kids.filter (· != (i : Int))).length := by
  have h := may_is hm
  unfold fitsB at hf
  rw [decide_eq_true_eq, hoi, hot] at hf
  obtain ⟨h1, h2⟩ := hf
  refine ⟨o.at_.toNat, by omega, ?_⟩
  rw [filter_len (kids_nodup (may_family hm) (nodeI ht)) i]
  by_cases hp : (at_ f (i : Int)).parent = (t : Int)
  · rw [if_pos hp] at h2
    split <;> omega
  · rw [if_neg hp] at h2
    rw [if_neg (not_kid h hp)]
    omega
end
section
variable [Avoid] {base wk g c : Nat} {o : Opn} {f : Fo}
set_option maxRecDepth 100000 in
set_option maxHeartbeats 20000000 in
theorem insert_do (hm : mayB f = true) (hi : isNode f o.id = true) (hto : isNode f o.to = true) (hfit : fitsB f o = true) (hw1 : (Lit.int .i64 o.id).wf = true) (hw2 : (Lit.int .i64 o.to).wf = true) (hbw : base ≤ wk) : Do 112 base wk g c o f (insertF f o) := by
  intro w h
  have htk := take_do hm hi hbw w h
  obtain ⟨i, hoi, hil⟩ := node_nat hi
  obtain ⟨t, hot, htl⟩ := node_nat hto
  obtain ⟨a, hoa, hal⟩ := fits_len hm hoi hot hil htl hfit
  have hf2 : insertF f o = ((takeF f i).set i { at_ (takeF f i) (i : Int) with parent := (t : Int) }).set t { at_ ((takeF f i).set i { at_ (takeF f i) (i : Int) with parent := (t : Int) }) (t : Int) with kids := insertL ((at_ f (t : Int)).kids.filter (· != (i : Int))) a i } := by
    rw [← insert_kids hm hil htl (t : Int)]
    unfold insertF
    simp only [hoi, hot, hoa, Int.toNat_natCast]
  have hkl := may_kids hm f[t] (List.getElem_mem _)
  rw [← at_nat htl] at hkl
  have hkl2 := List.length_filter_le (· != (i : Int)) (at_ f (t : Int)).kids
  have hk2 := insert_kids hm hil htl (t : Int)
  have hlen1 := take_length f (i : Int)
  rw [hoi] at htk hw1
  rw [hot] at hw2
  rw [hf2]
  have hlen2 : ((takeF f i).set i { at_ (takeF f i) (i : Int) with parent := (t : Int) }).length = f.length := by rw [List.length_set, hlen1]
  have Hoi := Lib.hid hoi; have Hot := Lib.hid hot; have Hoa := Lib.hid hoa; have Htk := Lib.hid htk; have Hk2 := Lib.hid hk2; have Hw1 := Lib.hid hw1; have Hlen1 := Lib.hid hlen1; have Hlen2 := Lib.hid hlen2
  have hf0 : 0 < f.length := by omega
  clear hoi hot hoa htk hk2 hf2 hw1 hi hto hfit hm h hlen1 hlen2
  generalize hl2 : (at_ f (t : Int)).kids.filter (· != (i : Int)) = l2 at *
  clear hl2
  generalize takeF f (i : Int) = f1 at *
  go_enter Tryz.func112, Tryz.ntmps112
  go_upto_region 1 with (go_at_call 113; ((with_reducible refine (Htk.out).mono ?_); rintro e w1 ⟨rfl, g1, c1, hW1, hB1⟩; have HW1 := Lib.hid hW1; have HB1 := Lib.hid hB1; clear hW1 hB1))
  have hi1 : i < f1.length := by rw [Hlen1.out]; exact hil
  have hnode1 : isNode f1 o.id = true := by rw [Hoi.out]; exact (node_iff _ _).2 ⟨by omega, by omega⟩
  have hn := node_grow w1 HW1.out hnode1
  rw [Hoi.out, Int.toNat_natCast] at hn
  have hcc := fun w' (hw' : Below w1.heap.size w1 w') => cell_grow hw' HW1.out.cells.2.2.2.1
  rw [Hot.out] at hcc
  have hput := fun w' (hw' : Below w1.heap.size w1 w') => (HW1.out.below hw').put (j := 4) (u := .int .i64 (t : Int)) (n := { f1[i] with parent := (t : Int) }) hi1 (by decide) (fun cs hcs => by
    obtain ⟨va, vk, rfl, r1, r2, r3, r4, r5, r6⟩ := hcs
    exact ⟨va, vk, rfl, r1, r2, r3, r4, r5, hw2⟩)
  have hfree := fun w' (hw' : Below w1.heap.size w1 w') => ((HW1.out.below hw').free (by omega)).1 (i * 6 + 4)
  obtain ⟨_, _, _, _, _, _, k4, _, _, _⟩ := HW1.out.node (i := (i : Int)) ((node_iff _ _).2 ⟨by omega, by omega⟩)
  rw [Int.toNat_natCast] at k4
  have hk4 := fun w' (hw' : Below w1.heap.size w1 w') => cell_grow hw' k4
  have hbs1 := HW1.out.base_size (by omega)
  have hne1 := HW1.out.ne
  have c3 := hcc w1 (Below.refl _ _)
  have kf := hfree w1 (Below.refl _ _)
  have Hn := Lib.hid hn; have Hput := Lib.hid hput; have Hcc := Lib.hid hcc; have Hfree := Lib.hid hfree; have Hk4 := Lib.hid hk4
  clear hn hput hcc hfree hk4 Htk hnode1
  go_region_held3 (fun w' => w'.cell? ⟨wk, 3, none⟩ = some (.int .i64 (t : Int)))
    (first | exact c3 | exact d3 | (exact (OwnF.cell_same (Below.heap_setCell _ _ _ _ (fun e => hne1 e.symm)) _).trans (by assumption)) | go_keep)
    (first | (go_at_call 114; (first | (with_reducible refine (Hn.out _ (.inl rfl)).mono ?_) | (with_reducible refine (Hn.out _ (.inr rfl)).mono ?_)); rintro e w5 ⟨rfl, hb5⟩; have d3 := Hcc.out _ hb5; have d4 := Hk4.out _ hb5; have df := Hfree.out _ hb5; have Hb5 := Lib.hid hb5; clear hb5))
  go_upto_region 2 with (fail)
  obtain ⟨w2, hw2'⟩ : ∃ w2, w5.setCell ⟨g1, i * 6 + 4, none⟩ (.int .i64 (t : Int)) = w2 := ⟨_, rfl⟩
  have hp2 := Hput.out _ Hb5.out
  rw [hw2', ← at_nat hi1] at hp2
  rw [hw2']
  clear hw2' c3 kf k4 d3 d4 df Hn Hput Hcc Hfree Hk4
  obtain ⟨hW2, hB2⟩ := hp2
  generalize hf2e : f1.set i { at_ f1 (i : Int) with parent := (t : Int) } = f2 at *
  clear hf2e
  have ht2 : t < f2.length := by rw [Hlen2.out]; exact htl
  obtain ⟨_, vk, _, _, _, _, _, k5, _, rk⟩ := hW2.node (i := (t : Int)) ((node_iff _ _).2 ⟨by omega, by omega⟩)
  rw [Int.toNat_natCast] at k5
  rw [Hk2.out] at rk
  obtain ⟨Ak, ck, rfl, hck, hcm⟩ := rk.form
  have hwf := kids_wf rk
  have hnw := hW2.ne
  have hce : ∀ w', Below w2.heap.size w2 w' → w'.cell? ⟨wk, 0, none⟩ = some (.slice (some ⟨g1, 0, none⟩) f2.length c1) ∧ w'.cell? ⟨wk, 2, none⟩ = some (.int .i64 (i : Int)) ∧ w'.cell? ⟨wk, 3, none⟩ = some (.int .i64 (t : Int)) ∧ w'.cell? ⟨wk, 4, none⟩ = some (.int .i64 (a : Int)) ∧ w'.cell? ⟨g1, t * 6 + 5, none⟩ = some (.slice Ak l2.length ck) ∧ w'.frozen? ⟨g1, t * 6 + 5, none⟩ = false := fun w' hb => by
    have hc := (hW2.below hb).cells
    rw [Hoi.out, Hot.out, Hoa.out] at hc
    exact ⟨hc.1, hc.2.2.1, hc.2.2.2.1, hc.2.2.2.2.1, cell_grow hb k5, ((hW2.below hb).free (by omega)).1 _⟩
  have hcl : ∀ W, Below w2.heap.size w2 W → Calls Tryz.prog 116 #[.slice Ak l2.length ck] W fun e w' => ∃ v', e = .returned v' ∧ w'.ownsRow W.heap.size 3 1 v' l2.length (l2.map (Value.int .i64)) ∧ Below W.heap.size W w' := fun W hW =>
    cloneI_calls W _ _ ((rk.keep (fun b _ hl => hW.block b hl) hW.size (fun b x _ => x)).rd) (by omega)
  have hin : ∀ W v' vb, Below w2.heap.size w2 W → W.ownsRow w2.heap.size 3 1 v' l2.length (l2.map (Value.int .i64)) → W.heap[vb]? = some (.cells #[.int .i64 (i : Int)] 3 (0, 0)) → v'.ownBlock ≠ some vb →
      Calls Tryz.prog 115 #[v', .int .i64 (a : Int), .slice (some ⟨vb, 0, none⟩) 1 1] W fun e w' => ∃ v'', e = .returned v'' ∧ RdS intS 1 (fun b => w2.heap.size ≤ b) w' v'' (insertL l2 a i) ∧ Below w2.heap.size w2 w' := fun W v' vb hW ho hvb hne =>
    (insertI_calls W w2.heap.size vb 3 v' l2 a i ho hal (by omega) hwf Hw1.out hvb hne hW.size).mono (fun e w' ⟨v'', h1, h2, h3⟩ => ⟨v'', h1, h2, hW.trans h3⟩)
  have fin : ∀ (w7 : World) (v7 : Value), RdS intS 1 (fun b => w2.heap.size ≤ b) w7 v7 (insertL l2 a i) → Below w2.heap.size w2 w7 →
      DoPost base wk o (f2.set t { at_ f2 (t : Int) with kids := insertL l2 a i }) w (.returned (.tuple #[])) (w7.setCell ⟨g1, t * 6 + 5, none⟩ v7) := fun w7 v7 hr hb => by
    obtain ⟨h1, h2⟩ := kids_put hW2 ht2 v7 _ hr hb
    exact ⟨rfl, g1, c1, h1, (((HB1.out.trans (Hb5.out.mono hbs1)).trans hB2).trans (hb.mono (hW2.base_size (by omega)))).trans h2⟩
  obtain ⟨e1, e2, e3, e4, _, _⟩ := hce w2 (Below.refl _ _)
  have ef := (hce w2.drew (Below.refl _ _).drew).2.2.2.2.2
  have ek := (hce w2.drew (Below.refl _ _).drew).2.2.2.2.1
  have hlc := hW2.big
  have htc : (t : Int) < (f2.length : Int) := by omega
  have Hce := Lib.hid hce; have Hcl := Lib.hid hcl; have Hin := Lib.hid hin; have Fin := Lib.hid fin
  clear hce hcl hin fin rk k5 hwf hW2 hB2 HW1 Hk2 hal hkl hkl2
  refine wp_region_held_drew (S := (fun w' => w'.cell? ⟨wk, 0, none⟩ = some (.slice (some ⟨g1, 0, none⟩) f2.length c1) ∧ w'.cell? ⟨wk, 2, none⟩ = some (.int .i64 (i : Int)) ∧ w'.cell? ⟨wk, 3, none⟩ = some (.int .i64 (t : Int)) ∧ w'.cell? ⟨wk, 4, none⟩ = some (.int .i64 (a : Int)))) (by kernel_rfl) ⟨e1, e2, e3, e4⟩ (fun hHeld => ?_)
  refine' wpAnyH_take (i := 0) (v := ?v1) rfl (by kernel_rfl) (by kernel_rfl) (by kernel_rfl) (fun _ _ _ h => h) (Or.inl ⟨by rfl, ?hy1⟩) (by assumption) ?rest1
  case hy1 => (intro w hSw; (try dsimp only at hSw); go_simp; (try with_reducible rfl))
  (try simp only [Act.put, List.setIfInBounds_toArray, List.set_cons_zero, List.set_cons_succ])
  refine' wpAnyH_take (i := 1) (v := ?v2) rfl (by kernel_rfl) (by kernel_rfl) (by kernel_rfl) (fun _ _ _ h => h) (Or.inl ⟨by rfl, ?hy2⟩) (by assumption) ?rest2
  case hy2 => (intro w hSw; (try dsimp only at hSw); go_simp; (try with_reducible rfl))
  (try simp only [Act.put, List.setIfInBounds_toArray, List.set_cons_zero, List.set_cons_succ])
  refine' wpAnyH_take (i := 2) (v := ?v3) rfl (by kernel_rfl) (by kernel_rfl) (by kernel_rfl) (fun _ _ _ h => h) (Or.inl ⟨by rfl, ?hy3⟩) (by assumption) ?rest3
  case hy3 => (intro w hSw; (try dsimp only at hSw); go_simp; (try with_reducible rfl))
  (try simp only [Act.put, List.setIfInBounds_toArray, List.set_cons_zero, List.set_cons_succ])
  refine' wpAnyH_take (i := 3) (v := ?v4) rfl (by kernel_rfl) (by kernel_rfl) (by kernel_rfl) (fun _ _ _ h => h) (Or.inl ⟨by rfl, ?hy4⟩) (by assumption) ?rest4
  case hy4 => (intro w hSw; (try dsimp only at hSw); go_simp; (try with_reducible rfl))
  (try simp only [Act.put, List.setIfInBounds_toArray, List.set_cons_zero, List.set_cons_succ])
  refine' wpAnyH_take (i := 4) (v := ?v5) rfl (by kernel_rfl) (by kernel_rfl) (by kernel_rfl) (fun _ _ _ h => h) (Or.inl ⟨by rfl, ?hy5⟩) (by assumption) ?rest5
  case hy5 => (intro w hSw; (try dsimp only at hSw); go_simp; (try with_reducible rfl))
  (try simp only [Act.put, List.setIfInBounds_toArray, List.set_cons_zero, List.set_cons_succ])
  refine' wpAnyH_take (i := 5) (v := ?v6) rfl (by kernel_rfl) (by kernel_rfl) (by kernel_rfl) (fun _ _ _ h => h) (Or.inl ⟨by rfl, ?hy6⟩) (by assumption) ?rest6
  case hy6 => (intro w hSw; (try dsimp only at hSw); go_simp; (try with_reducible rfl))
  (try simp only [Act.put, List.setIfInBounds_toArray, List.set_cons_zero, List.set_cons_succ])
  refine' wpAnyH_take (i := 6) (v := ?v7) rfl (by kernel_rfl) (by kernel_rfl) (by kernel_rfl) (fun _ _ _ h => h) (Or.inl ⟨by rfl, ?hy7⟩) (by assumption) ?rest7
  case hy7 => (intro w hSw; (try dsimp only at hSw); go_simp; (try with_reducible rfl))
  (try simp only [Act.put, List.setIfInBounds_toArray, List.set_cons_zero, List.set_cons_succ])
  refine' wpAnyH_take (i := 7) (v := ?v8) rfl (by kernel_rfl) (by kernel_rfl) (by kernel_rfl) (fun _ _ _ h => h) (Or.inl ⟨by rfl, ?hy8⟩) (by assumption) ?rest8
  case hy8 => (intro w hSw; (try dsimp only at hSw); go_simp; (try with_reducible rfl))
  (try simp only [Act.put, List.setIfInBounds_toArray, List.set_cons_zero, List.set_cons_succ])
  refine' wpAnyH_take (i := 8) (v := ?v9) rfl (by kernel_rfl) (by kernel_rfl) (by kernel_rfl) (fun _ _ _ h => h) (Or.inl ⟨by rfl, ?hy9⟩) (by assumption) ?rest9
  case hy9 => (intro w hSw; (try dsimp only at hSw); go_simp; (try with_reducible rfl))
  (try simp only [Act.put, List.setIfInBounds_toArray, List.set_cons_zero, List.set_cons_succ])
  refine' wpAnyH_take (i := 9) (v := ?v10) rfl (by kernel_rfl) (by kernel_rfl) (by kernel_rfl) (fun _ _ _ h => h) (Or.inl ⟨by rfl, ?hy10⟩) (by assumption) ?rest10
  case hy10 => (intro w hSw; (try dsimp only at hSw); go_simp; (try with_reducible rfl))
  (try simp only [Act.put, List.setIfInBounds_toArray, List.set_cons_zero, List.set_cons_succ])
  refine' wpAnyH_take (i := 10) (v := ?v11) rfl (by kernel_rfl) (by kernel_rfl) (by kernel_rfl) (fun _ _ _ h => h) (Or.inl ⟨by rfl, ?hy11⟩) (by assumption) ?rest11
  case hy11 => (intro w hSw; (try dsimp only at hSw); go_simp; (try with_reducible rfl))
  (try simp only [Act.put, List.setIfInBounds_toArray, List.set_cons_zero, List.set_cons_succ])
  refine' wpAnyH_take (i := 11) (v := ?v12) rfl (by kernel_rfl) (by kernel_rfl) (by kernel_rfl) (fun _ _ _ h => h) (Or.inl ⟨by rfl, ?hy12⟩) (by assumption) ?rest12
  case hy12 => (intro w hSw; (try dsimp only at hSw); go_simp; (try with_reducible rfl))
  (try simp only [Act.put, List.setIfInBounds_toArray, List.set_cons_zero, List.set_cons_succ])
  refine' wpAnyH_take (i := 12) (v := ?v13) rfl (by kernel_rfl) (by kernel_rfl) (by kernel_rfl) (fun _ _ _ h => h) (Or.inl ⟨by rfl, ?hy13⟩) (by assumption) ?rest13
  case hy13 => (intro w hSw; (try dsimp only at hSw); go_simp; (try with_reducible rfl))
  (try simp only [Act.put, List.setIfInBounds_toArray, List.set_cons_zero, List.set_cons_succ])
  refine' wpAnyH_take (i := 13) (v := ?v14) rfl (by kernel_rfl) (by kernel_rfl) (by kernel_rfl) (fun _ _ _ h => h) (Or.inl ⟨by rfl, ?hy14⟩) (by assumption) ?rest14
  case hy14 => (intro w hSw; (try dsimp only at hSw); go_simp; (try with_reducible rfl))
  (try simp only [Act.put, List.setIfInBounds_toArray, List.set_cons_zero, List.set_cons_succ])
  refine' wpAnyH_take (i := 14) (v := ?v15) rfl (by kernel_rfl) (by kernel_rfl) (by kernel_rfl) (fun _ _ _ h => h) (Or.inl ⟨by rfl, ?hy15⟩) (by assumption) ?rest15
  case hy15 => (intro w hSw; (try dsimp only at hSw); go_simp; (try with_reducible rfl))
  (try simp only [Act.put, List.setIfInBounds_toArray, List.set_cons_zero, List.set_cons_succ])
  refine' wpAnyH_take (i := 15) (v := ?v16) rfl (by kernel_rfl) (by kernel_rfl) (by kernel_rfl) (fun _ _ _ h => h) (Or.inl ⟨by rfl, ?hy16⟩) (by assumption) ?rest16
  case hy16 => (intro w hSw; (try dsimp only at hSw); go_simp; (try with_reducible rfl))
  (try simp only [Act.put, List.setIfInBounds_toArray, List.set_cons_zero, List.set_cons_succ])
  refine' wpAnyH_take (i := 16) (v := ?v17) rfl (by kernel_rfl) (by kernel_rfl) (by kernel_rfl) (fun _ _ _ h => h) (Or.inl ⟨by rfl, ?hy17⟩) (by assumption) ?rest17
  case hy17 => (intro w hSw; (try dsimp only at hSw); go_simp; (try with_reducible rfl))
  (try simp only [Act.put, List.setIfInBounds_toArray, List.set_cons_zero, List.set_cons_succ])
  refine' wpAnyH_take (i := 17) (v := ?v18) rfl (by kernel_rfl) (by kernel_rfl) (by kernel_rfl) (fun _ _ _ h => h) (Or.inl ⟨by rfl, ?hy18⟩) (by assumption) ?rest18
  case hy18 => (intro w hSw; (try dsimp only at hSw); go_simp; (try with_reducible rfl))
  (try simp only [Act.put, List.setIfInBounds_toArray, List.set_cons_zero, List.set_cons_succ])
  refine' wpAnyH_take (i := 18) (v := ?v19) rfl (by kernel_rfl) (by kernel_rfl) (by kernel_rfl) (fun _ _ _ h => h) (Or.inl ⟨by rfl, ?hy19⟩) (by assumption) ?rest19
  case hy19 => (intro w hSw; (try dsimp only at hSw); go_simp; (try with_reducible rfl))
  (try simp only [Act.put, List.setIfInBounds_toArray, List.set_cons_zero, List.set_cons_succ])
  refine' wpAnyH_take (i := 19) (v := ?v20) rfl (by kernel_rfl) (by kernel_rfl) (by kernel_rfl) (fun _ _ _ h => h) (Or.inl ⟨by rfl, ?hy20⟩) (by assumption) ?rest20
  case hy20 => (intro w hSw; (try dsimp only at hSw); go_simp; (try with_reducible rfl))
  (try simp only [Act.put, List.setIfInBounds_toArray, List.set_cons_zero, List.set_cons_succ])
  refine' wpAnyH_take (i := 22) (v := ?v21) rfl (by kernel_rfl) (by kernel_rfl) (by kernel_rfl) (fun _ _ _ h => h) (Or.inl ⟨by rfl, ?hy21⟩) (by assumption) ?rest21
  case hy21 => (intro w hSw; (try dsimp only at hSw); go_simp; (try with_reducible rfl))
  (try simp only [Act.put, List.setIfInBounds_toArray, List.set_cons_zero, List.set_cons_succ])
  refine' wpAnyH_take (i := 23) (v := ?v22) rfl (by kernel_rfl) (by kernel_rfl) (by kernel_rfl) (fun _ _ _ h => h) (Or.inl ⟨by rfl, ?hy22⟩) (by assumption) ?rest22
  case hy22 => (intro w hSw; (try dsimp only at hSw); go_simp; (try with_reducible rfl))
  (try simp only [Act.put, List.setIfInBounds_toArray, List.set_cons_zero, List.set_cons_succ])
  refine' wpAnyH_take (i := 24) (v := ?v23) rfl (by kernel_rfl) (by kernel_rfl) (by kernel_rfl) (fun _ _ _ h => h) (Or.inl ⟨by rfl, ?hy23⟩) (by assumption) ?rest23
  case hy23 => (intro w hSw; (try dsimp only at hSw); go_simp; (try with_reducible rfl))
  (try simp only [Act.put, List.setIfInBounds_toArray, List.set_cons_zero, List.set_cons_succ])
  refine' wpAnyH_take (i := 25) (v := ?v24) rfl (by kernel_rfl) (by kernel_rfl) (by kernel_rfl) (fun _ _ _ h => h) (Or.inl ⟨by rfl, ?hy24⟩) (by assumption) ?rest24
  case hy24 => (intro w hSw; (try dsimp only at hSw); go_simp; (try with_reducible rfl))
  (try simp only [Act.put, List.setIfInBounds_toArray, List.set_cons_zero, List.set_cons_succ])
  refine' wpAnyH_take (i := 26) (v := ?v25) rfl (by kernel_rfl) (by kernel_rfl) (by kernel_rfl) (fun _ _ _ h => h) (Or.inl ⟨by rfl, ?hy25⟩) (by assumption) ?rest25
  case hy25 => (intro w hSw; (try dsimp only at hSw); go_simp; (try with_reducible rfl))
  (try simp only [Act.put, List.setIfInBounds_toArray, List.set_cons_zero, List.set_cons_succ])
  refine' wpAnyH_take (i := 27) (v := ?v26) rfl (by kernel_rfl) (by kernel_rfl) (by kernel_rfl) (fun _ _ _ h => h) (Or.inl ⟨by rfl, ?hy26⟩) (by assumption) ?rest26
  case hy26 => (intro w hSw; (try dsimp only at hSw); go_simp; (try with_reducible rfl))
  (try simp only [Act.put, List.setIfInBounds_toArray, List.set_cons_zero, List.set_cons_succ])
  refine' wpAnyH_take (i := 28) (v := ?v27) rfl (by kernel_rfl) (by kernel_rfl) (by kernel_rfl) (fun _ _ _ h => h) (Or.inl ⟨by rfl, ?hy27⟩) (by assumption) ?rest27
  case hy27 => (intro w hSw; (try dsimp only at hSw); go_simp; (try with_reducible rfl))
  (try simp only [Act.put, List.setIfInBounds_toArray, List.set_cons_zero, List.set_cons_succ])
  refine' wpAnyH_take (i := 29) (v := ?v28) rfl (by kernel_rfl) (by kernel_rfl) (by kernel_rfl) (fun _ _ _ h => h) (Or.inl ⟨by rfl, ?hy28⟩) (by assumption) ?rest28
  case hy28 => (intro w hSw; (try dsimp only at hSw); go_simp; (try with_reducible rfl))
  (try simp only [Act.put, List.setIfInBounds_toArray, List.set_cons_zero, List.set_cons_succ])
  refine' wpAnyH_take (i := 30) (v := ?v29) rfl (by kernel_rfl) (by kernel_rfl) (by kernel_rfl) (fun _ _ _ h => h) (Or.inl ⟨by rfl, ?hy29⟩) (by assumption) ?rest29
  case hy29 => (intro w hSw; (try dsimp only at hSw); go_simp; (try with_reducible rfl))
  (try simp only [Act.put, List.setIfInBounds_toArray, List.set_cons_zero, List.set_cons_succ])
  refine' wpAnyH_take (i := 31) (v := ?v30) rfl (by kernel_rfl) (by kernel_rfl) (by kernel_rfl) (fun _ _ _ h => h) (Or.inl ⟨by rfl, ?hy30⟩) (by assumption) ?rest30
  case hy30 => (intro w hSw; (try dsimp only at hSw); go_simp; (try with_reducible rfl))
  (try simp only [Act.put, List.setIfInBounds_toArray, List.set_cons_zero, List.set_cons_succ])
  refine wpAnyH_ready (rs := [20, 32]) (by kernel_rfl) (by simp) ?_
  refine (AllReadyH.cons rfl (fun K hK => ?_) (AllReadyH.cons rfl (fun K hK => ?_) AllReadyH.nil))
  · go_simp
    refine hK.out _ _ hHeld (fun hHeld => ?_)
    clear hK K
    (try simp only [Act.put, List.setIfInBounds_toArray, List.set_cons_zero, List.set_cons_succ])
    refine wpAnyH_ready (rs := [21, 32]) (by kernel_rfl) (by simp) ?_
    refine (AllReadyH.cons rfl (fun K hK => ?_) (AllReadyH.cons rfl (fun K hK => ?_) AllReadyH.nil))
    · go_simp
      go_at_call 116
      refine (Hcl.out _ (Below.refl _ _).drew).mono ?_
      rintro e w6 ⟨v6, rfl, ho6, hb6⟩
      have hb6' := (Below.refl w2.heap.size w2).drew.trans hb6
      obtain ⟨d1, d2, d3, d4, d5, d6⟩ := Hce.out _ hb6'
      have Ho6 := Lib.hid ho6; have Hb6 := Lib.hid hb6'
      clear ho6 hb6 hb6'
      go_simp
      refine hK.out _ _ ⟨d1, d2, d3, d4⟩ (fun hHeld => ?_)
      clear hK K
      (try simp only [Act.put, List.setIfInBounds_toArray, List.set_cons_zero, List.set_cons_succ])
      refine wpAnyH_ready (rs := [32]) (by kernel_rfl) (by simp) ?_
      refine (AllReadyH.cons rfl (fun K hK => ?_) AllReadyH.nil)
      go_simp
      have hbm := (Hb6.out.trans (Below.refl _ _)).alloc (Hb6.out.size) (.cells #[.int .i64 (i : Int)] 3)
      have hvb := World.alloc_heap_new w6 (.cells #[.int .i64 (i : Int)] 3)
      have hom := Ho6.out.alloc (.cells #[.int .i64 (i : Int)] 3)
      have hnb : v6.ownBlock ≠ some w6.heap.size := fun e => by have := (Ho6.out.lt _ e).2; omega
      obtain ⟨wm, hwm⟩ : ∃ wm, w6.alloc (.cells #[.int .i64 (i : Int)] 3) = wm := ⟨_, rfl⟩
      obtain ⟨vb, hvbe⟩ : ∃ vb, w6.heap.size = vb := ⟨_, rfl⟩
      rw [hwm] at hbm hvb hom
      rw [hvbe] at hvb hnb
      (try rw [hwm])
      (try rw [hvbe])
      clear hwm hvbe
      obtain ⟨d1, d2, d3, d4, d5, d6⟩ := Hce.out _ hbm
      have Hbm := Lib.hid hbm; have Hvb := Lib.hid hvb; have Hom := Lib.hid hom
      clear hbm hvb hom
      refine hK.out _ _ ⟨d1, d2, d3, d4⟩ (fun hHeld => ?_)
      clear hK K
      (try simp only [Act.put, List.setIfInBounds_toArray, List.set_cons_zero, List.set_cons_succ])
      refine wpAnyH_ready (rs := [33]) (by kernel_rfl) (by simp) ?_
      refine (AllReadyH.cons rfl (fun K hK => ?_) AllReadyH.nil)
      go_simp
      go_at_call 115
      refine (Hin.out wm v6 vb Hbm.out Hom.out Hvb.out hnb).mono ?_
      rintro e w7 ⟨v7, rfl, hr7, hb7⟩
      obtain ⟨A7, c7, rfl, _, _⟩ := hr7.form
      obtain ⟨s1, s2, s3, s4, s5, s6⟩ := Hce.out _ hb7
      have Hr7 := Lib.hid hr7; have Hb7 := Lib.hid hb7
      clear hr7 hb7
      go_simp
      refine hK.out _ _ ⟨s1, s2, s3, s4⟩ (fun hHeld => ?_)
      clear hK K
      (try simp only [Act.put, List.setIfInBounds_toArray, List.set_cons_zero, List.set_cons_succ])
      refine' wpAnyH_take (i := 34) (v := ?v31) rfl (by kernel_rfl) (by kernel_rfl) (by kernel_rfl) (fun _ _ _ h => h) (Or.inl ⟨by rfl, ?hy31⟩) (by assumption) ?rest31
      case hy31 => (intro w hSw; (try dsimp only at hSw); go_simp; (try with_reducible rfl))
      (try simp only [Act.put, List.setIfInBounds_toArray, List.set_cons_zero, List.set_cons_succ])
      refine' wpAnyH_take (i := 35) (v := ?v32) rfl (by kernel_rfl) (by kernel_rfl) (by kernel_rfl) (fun _ _ _ h => h) (Or.inl ⟨by rfl, ?hy32⟩) (by assumption) ?rest32
      case hy32 => (intro w hSw; (try dsimp only at hSw); go_simp; (try with_reducible rfl))
      (try simp only [Act.put, List.setIfInBounds_toArray, List.set_cons_zero, List.set_cons_succ])
      refine wpAnyH_ready (rs := [36]) (by kernel_rfl) (by simp) ?_
      refine (AllReadyH.cons rfl (fun K hK => ?_) AllReadyH.nil)
      go_simp
      refine hK.out _ _ ⟨(OwnF.cell_same (Below.heap_setCell _ _ _ _ (fun e => hnw e.symm)) _).trans s1, (OwnF.cell_same (Below.heap_setCell _ _ _ _ (fun e => hnw e.symm)) _).trans s2, (OwnF.cell_same (Below.heap_setCell _ _ _ _ (fun e => hnw e.symm)) _).trans s3, (OwnF.cell_same (Below.heap_setCell _ _ _ _ (fun e => hnw e.symm)) _).trans s4⟩ (fun hHeld => ?_)
      clear hK K
      (try simp only [Act.put, List.setIfInBounds_toArray, List.set_cons_zero, List.set_cons_succ])
      refine wpAnyH_done (by kernel_rfl) ?_ _
      first | go_end0 | refine bodyPost_ret (results_none rfl _ _ _) rfl ?_
      exact Fin.out _ _ Hr7.out Hb7.out
    · go_simp
      have hbm := ((Below.refl w2.heap.size w2).alloc (Nat.le_refl _) (.cells #[.int .i64 (i : Int)] 3)).drew
      have hvb : (w2.alloc (.cells #[.int .i64 (i : Int)] 3)).drew.heap[w2.heap.size]? = _ := World.alloc_heap_new w2 (.cells #[.int .i64 (i : Int)] 3)
      have hsm : w2.heap.size < (w2.alloc (.cells #[.int .i64 (i : Int)] 3)).drew.heap.size := by simp
      obtain ⟨wm, hwm⟩ : ∃ wm, (w2.alloc (.cells #[.int .i64 (i : Int)] 3)).drew = wm := ⟨_, rfl⟩
      obtain ⟨vb, hvbe⟩ : ∃ vb, w2.heap.size = vb := ⟨_, rfl⟩
      rw [hwm] at hbm hvb hsm
      (try rw [hwm])
      rw [hvbe] at hvb hsm
      (try rw [hvbe])
      have Hvbe := Lib.hid hvbe
      clear hwm hvbe
      obtain ⟨d1, d2, d3, d4, d5, d6⟩ := Hce.out _ hbm
      have Hbm := Lib.hid hbm; have Hvb := Lib.hid hvb
      clear hbm hvb
      refine hK.out _ _ ⟨d1, d2, d3, d4⟩ (fun hHeld => ?_)
      clear hK K
      (try simp only [Act.put, List.setIfInBounds_toArray, List.set_cons_zero, List.set_cons_succ])
      refine wpAnyH_ready (rs := [21]) (by kernel_rfl) (by simp) ?_
      refine (AllReadyH.cons rfl (fun K hK => ?_) AllReadyH.nil)
      go_simp
      go_at_call 116
      refine (Hcl.out wm Hbm.out).mono ?_
      rintro e w6 ⟨v6, rfl, ho6, hb6⟩
      have hbm6 := Hbm.out.trans (hb6.mono Hbm.out.size)
      obtain ⟨d1, d2, d3, d4, d5, d6⟩ := Hce.out _ hbm6
      have hvb6 := (hb6.block vb (lt_heap Hvb.out)).trans Hvb.out
      have hnb : v6.ownBlock ≠ some vb := fun e => by have := (ho6.lt _ e).1; have := Hvbe.out; omega
      have hom := own_base ho6 Hbm.out.size
      clear Hvb Hbm
      have Hbm := Lib.hid hbm6; have Hvb := Lib.hid hvb6; have Hom := Lib.hid hom
      obtain ⟨wm', hwm'⟩ : ∃ wm', w6 = wm' := ⟨_, rfl⟩
      subst hwm'
      clear ho6 hb6 hbm6 hvb6 hom
      go_simp
      refine hK.out _ _ ⟨d1, d2, d3, d4⟩ (fun hHeld => ?_)
      clear hK K
      (try simp only [Act.put, List.setIfInBounds_toArray, List.set_cons_zero, List.set_cons_succ])
      refine wpAnyH_ready (rs := [33]) (by kernel_rfl) (by simp) ?_
      refine (AllReadyH.cons rfl (fun K hK => ?_) AllReadyH.nil)
      go_simp
      go_at_call 115
      refine (Hin.out w6 v6 vb Hbm.out Hom.out Hvb.out hnb).mono ?_
      rintro e w7 ⟨v7, rfl, hr7, hb7⟩
      obtain ⟨A7, c7, rfl, _, _⟩ := hr7.form
      obtain ⟨s1, s2, s3, s4, s5, s6⟩ := Hce.out _ hb7
      have Hr7 := Lib.hid hr7; have Hb7 := Lib.hid hb7
      clear hr7 hb7
      go_simp
      refine hK.out _ _ ⟨s1, s2, s3, s4⟩ (fun hHeld => ?_)
      clear hK K
      (try simp only [Act.put, List.setIfInBounds_toArray, List.set_cons_zero, List.set_cons_succ])
      refine' wpAnyH_take (i := 34) (v := ?v33) rfl (by kernel_rfl) (by kernel_rfl) (by kernel_rfl) (fun _ _ _ h => h) (Or.inl ⟨by rfl, ?hy33⟩) (by assumption) ?rest33
      case hy33 => (intro w hSw; (try dsimp only at hSw); go_simp; (try with_reducible rfl))
      (try simp only [Act.put, List.setIfInBounds_toArray, List.set_cons_zero, List.set_cons_succ])
      refine' wpAnyH_take (i := 35) (v := ?v34) rfl (by kernel_rfl) (by kernel_rfl) (by kernel_rfl) (fun _ _ _ h => h) (Or.inl ⟨by rfl, ?hy34⟩) (by assumption) ?rest34
      case hy34 => (intro w hSw; (try dsimp only at hSw); go_simp; (try with_reducible rfl))
      (try simp only [Act.put, List.setIfInBounds_toArray, List.set_cons_zero, List.set_cons_succ])
      refine wpAnyH_ready (rs := [36]) (by kernel_rfl) (by simp) ?_
      refine (AllReadyH.cons rfl (fun K hK => ?_) AllReadyH.nil)
      go_simp
      refine hK.out _ _ ⟨(OwnF.cell_same (Below.heap_setCell _ _ _ _ (fun e => hnw e.symm)) _).trans s1, (OwnF.cell_same (Below.heap_setCell _ _ _ _ (fun e => hnw e.symm)) _).trans s2, (OwnF.cell_same (Below.heap_setCell _ _ _ _ (fun e => hnw e.symm)) _).trans s3, (OwnF.cell_same (Below.heap_setCell _ _ _ _ (fun e => hnw e.symm)) _).trans s4⟩ (fun hHeld => ?_)
      clear hK K
      (try simp only [Act.put, List.setIfInBounds_toArray, List.set_cons_zero, List.set_cons_succ])
      refine wpAnyH_done (by kernel_rfl) ?_ _
      first | go_end0 | refine bodyPost_ret (results_none rfl _ _ _) rfl ?_
      exact Fin.out _ _ Hr7.out Hb7.out
  · go_simp
    have hbm := ((Below.refl w2.heap.size w2).alloc (Nat.le_refl _) (.cells #[.int .i64 (i : Int)] 3)).drew
    have hvb : (w2.alloc (.cells #[.int .i64 (i : Int)] 3)).drew.heap[w2.heap.size]? = _ := World.alloc_heap_new w2 (.cells #[.int .i64 (i : Int)] 3)
    have hsm : w2.heap.size < (w2.alloc (.cells #[.int .i64 (i : Int)] 3)).drew.heap.size := by simp
    obtain ⟨wm, hwm⟩ : ∃ wm, (w2.alloc (.cells #[.int .i64 (i : Int)] 3)).drew = wm := ⟨_, rfl⟩
    obtain ⟨vb, hvbe⟩ : ∃ vb, w2.heap.size = vb := ⟨_, rfl⟩
    rw [hwm] at hbm hvb hsm
    (try rw [hwm])
    rw [hvbe] at hvb hsm
    (try rw [hvbe])
    have Hvbe := Lib.hid hvbe
    clear hwm hvbe
    obtain ⟨d1, d2, d3, d4, d5, d6⟩ := Hce.out _ hbm
    have Hbm := Lib.hid hbm; have Hvb := Lib.hid hvb
    clear hbm hvb
    refine hK.out _ _ ⟨d1, d2, d3, d4⟩ (fun hHeld => ?_)
    clear hK K
    (try simp only [Act.put, List.setIfInBounds_toArray, List.set_cons_zero, List.set_cons_succ])
    refine wpAnyH_ready (rs := [20]) (by kernel_rfl) (by simp) ?_
    refine (AllReadyH.cons rfl (fun K hK => ?_) AllReadyH.nil)
    go_simp
    refine hK.out _ _ hHeld (fun hHeld => ?_)
    clear hK K
    (try simp only [Act.put, List.setIfInBounds_toArray, List.set_cons_zero, List.set_cons_succ])
    refine wpAnyH_ready (rs := [21]) (by kernel_rfl) (by simp) ?_
    refine (AllReadyH.cons rfl (fun K hK => ?_) AllReadyH.nil)
    go_simp
    go_at_call 116
    refine (Hcl.out wm Hbm.out).mono ?_
    rintro e w6 ⟨v6, rfl, ho6, hb6⟩
    have hbm6 := Hbm.out.trans (hb6.mono Hbm.out.size)
    obtain ⟨d1, d2, d3, d4, d5, d6⟩ := Hce.out _ hbm6
    have hvb6 := (hb6.block vb (lt_heap Hvb.out)).trans Hvb.out
    have hnb : v6.ownBlock ≠ some vb := fun e => by have := (ho6.lt _ e).1; have := Hvbe.out; omega
    have hom := own_base ho6 Hbm.out.size
    clear Hvb Hbm
    have Hbm := Lib.hid hbm6; have Hvb := Lib.hid hvb6; have Hom := Lib.hid hom
    obtain ⟨wm', hwm'⟩ : ∃ wm', w6 = wm' := ⟨_, rfl⟩
    subst hwm'
    clear ho6 hb6 hbm6 hvb6 hom
    go_simp
    refine hK.out _ _ ⟨d1, d2, d3, d4⟩ (fun hHeld => ?_)
    clear hK K
    (try simp only [Act.put, List.setIfInBounds_toArray, List.set_cons_zero, List.set_cons_succ])
    refine wpAnyH_ready (rs := [33]) (by kernel_rfl) (by simp) ?_
    refine (AllReadyH.cons rfl (fun K hK => ?_) AllReadyH.nil)
    go_simp
    go_at_call 115
    refine (Hin.out w6 v6 vb Hbm.out Hom.out Hvb.out hnb).mono ?_
    rintro e w7 ⟨v7, rfl, hr7, hb7⟩
    obtain ⟨A7, c7, rfl, _, _⟩ := hr7.form
    obtain ⟨s1, s2, s3, s4, s5, s6⟩ := Hce.out _ hb7
    have Hr7 := Lib.hid hr7; have Hb7 := Lib.hid hb7
    clear hr7 hb7
    go_simp
    refine hK.out _ _ ⟨s1, s2, s3, s4⟩ (fun hHeld => ?_)
    clear hK K
    (try simp only [Act.put, List.setIfInBounds_toArray, List.set_cons_zero, List.set_cons_succ])
    refine' wpAnyH_take (i := 34) (v := ?v35) rfl (by kernel_rfl) (by kernel_rfl) (by kernel_rfl) (fun _ _ _ h => h) (Or.inl ⟨by rfl, ?hy35⟩) (by assumption) ?rest35
    case hy35 => (intro w hSw; (try dsimp only at hSw); go_simp; (try with_reducible rfl))
    (try simp only [Act.put, List.setIfInBounds_toArray, List.set_cons_zero, List.set_cons_succ])
    refine' wpAnyH_take (i := 35) (v := ?v36) rfl (by kernel_rfl) (by kernel_rfl) (by kernel_rfl) (fun _ _ _ h => h) (Or.inl ⟨by rfl, ?hy36⟩) (by assumption) ?rest36
    case hy36 => (intro w hSw; (try dsimp only at hSw); go_simp; (try with_reducible rfl))
    (try simp only [Act.put, List.setIfInBounds_toArray, List.set_cons_zero, List.set_cons_succ])
    refine wpAnyH_ready (rs := [36]) (by kernel_rfl) (by simp) ?_
    refine (AllReadyH.cons rfl (fun K hK => ?_) AllReadyH.nil)
    go_simp
    refine hK.out _ _ ⟨(OwnF.cell_same (Below.heap_setCell _ _ _ _ (fun e => hnw e.symm)) _).trans s1, (OwnF.cell_same (Below.heap_setCell _ _ _ _ (fun e => hnw e.symm)) _).trans s2, (OwnF.cell_same (Below.heap_setCell _ _ _ _ (fun e => hnw e.symm)) _).trans s3, (OwnF.cell_same (Below.heap_setCell _ _ _ _ (fun e => hnw e.symm)) _).trans s4⟩ (fun hHeld => ?_)
    clear hK K
    (try simp only [Act.put, List.setIfInBounds_toArray, List.set_cons_zero, List.set_cons_succ])
    refine wpAnyH_done (by kernel_rfl) ?_ _
    first | go_end0 | refine bodyPost_ret (results_none rfl _ _ _) rfl ?_
    exact Fin.out _ _ Hr7.out Hb7.out
end
end Go.Proofs.YthdenkkllpkplaaGreat.Work
end
section
/- apply.lies itself. -/
namespace Go.Proofs.YthdenkkllpkplaaGreat.Work
open Go Go.RowKit Go.Proofs.YthdenkkllpkplaaGreat.Seq Go.Proofs.YthdenkkllpkplaaGreat.WS Go.Proofs.YthdenkkllpkplaaGreat.FS Go.Proofs.YthdenkkllpkplaaGreat.Mem Go.Proofs.YthdenkkllpkplaaGreat.Rd Go.Proofs.YthdenkkllpkplaaGreat.Shapes Go.Proofs.YthdenkkllpkplaaGreat.Word Go.Proofs.YthdenkkllpkplaaGreat.FFam Go.Proofs.YthdenkkllpkplaaGreat.OwnF
set_option linter.unusedVariables false
set_option linter.unusedSimpArgs false

section
variable [Avoid] {base wk g c : Nat} {o : Opn} {f : Fo}
set_option maxHeartbeats 2000000 in
theorem lies_chk (hm : mayB f = true) (hi : isNode f o.id = true) (ht : isNode f o.to = true) : Chk 109 base wk g c o f (liesB f o) := by
  intro w h
  obtain ⟨c0, c1, c2, c3, c4, c5, c6⟩ := h.cells
  have hl := h.big
  obtain ⟨va, vk, k0, k1, k2, k3, k4, k5, ra, rk⟩ := h.node ht
  obtain ⟨Aa, ca, rfl, hca, hcma⟩ := ra.form
  obtain ⟨Ak, ck, rfl, hck, hcm⟩ := rk.form
  obtain ⟨t, hto, htl⟩ := node_nat ht
  have htn : (t : Int) < f.length := by omega
  have hfam := may_family hm
  have hkids : ∀ x ∈ (at_ f o.to).kids, isNode f x = true := fun x hx => (fam_kids hfam ht hx).1
  have hrk : ∀ w', Below w.heap.size w w' → RdL (intE .i64) 1 w'.heap.size w' (.slice Ak (at_ f o.to).kids.length ck) (at_ f o.to).kids := fun w' hw' => (rk.keep (fun b _ hl => hw'.block b hl) hw'.size (fun b x _ => x)).rd
  have hany : ∀ w', Below w.heap.size w w' → ∀ bx, w'.cell? ⟨bx, 0, none⟩ = some (.pointer (some ⟨wk, 0, none⟩)) → Calls Tryz.prog 169 #[.slice Ak (at_ f o.to).kids.length ck, .func (.func 170) #[] #[.pointer (some ⟨bx, 0, none⟩)]] w' fun e w'' => e = .returned (.bool ((at_ f o.to).kids.any (fun k => k != o.id && (at_ f k).kind == 1))) ∧ w' = w'' := fun w' hw' bx hbx =>
    ContainsFunc_calls w' _ _ (hrk w' hw') _ _ (fun j hj => lies1_calls w' (h.below hw') bx hbx _ (hkids _ (List.getElem_mem _)))
  have his : ∀ w', Below w.heap.size w w' → ∀ x : Int, (Lit.int .i64 x).wf = true → Calls Tryz.prog 128 #[.pointer (some ⟨wk, 0, none⟩), .slice (some ⟨w'.heap.size, 0, none⟩) 1 1] (w'.alloc (.cells #[.int .i64 x] 3)) (ChkPost ((at_ f o.id).kind == x) (w'.alloc (.cells #[.int .i64 x] 3))) := fun w' hw' x hx => by
    have hs := is_calls (w'.alloc (.cells #[.int .i64 x] 3)) ((h.below hw').below ((Below.refl _ _).alloc (Nat.le_refl _) _)) hi _ [x] (lit_ints w' [x] (by simp) (by simpa using hx))
    have e : [x].any (fun y => y == (at_ f o.id).kind) = ((at_ f o.id).kind == x) := by
      rw [Bool.eq_iff_iff]; simp; exact ⟨fun h => h.symm, fun h => h.symm⟩
    rw [e] at hs
    exact hs
  have hb : ∀ bb, liesB f o = bb → (o.id = 0 → bb = false) ∧ ((at_ f o.to).kind ≠ 0 → (at_ f o.to).kind ≠ 1 → bb = false) ∧ (o.id ≠ 0 → (at_ f o.to).kind = 0 ∨ (at_ f o.to).kind = 1 → bb = (decide (o.to ≠ 0) || ((at_ f o.id).kind == 3) || ((at_ f o.id).kind == 1 && !(at_ f o.to).kids.any (fun k => k != o.id && (at_ f k).kind == 1)))) := by
    rintro bb rfl
    refine ⟨fun h => ?_, fun h1 h2 => ?_, fun h1 h2 => ?_⟩
    · unfold liesB; rw [if_pos (.inl h)]
    · unfold liesB; rw [if_pos (.inr ⟨h1, h2⟩)]
    · unfold liesB; rw [if_neg (by rintro (h | ⟨h3, h4⟩); exact h1 h; exact h2.elim h3 h4)]
      by_cases e1 : o.to ≠ 0
      · rw [if_pos (.inl e1), decide_eq_true e1]; rfl
      · rw [decide_eq_false e1]
        by_cases e2 : (at_ f o.id).kind = 3
        · rw [if_pos (.inr e2), e2]; rfl
        · rw [if_neg (by rintro (h | h); exact e1 h; exact e2 h)]
          have : ((at_ f o.id).kind == 3) = false := by rw [beq_eq_false_iff_ne]; exact e2
          rw [this]; rfl
  generalize liesB f o = bb at *
  have hb := hb _ rfl
  obtain ⟨av, hav⟩ : ∃ av, (at_ f o.to).kids.any (fun k => k != o.id && (at_ f k).kind == 1) = av := ⟨_, rfl⟩
  rw [hav] at hb hany
  have hcc : ∀ w', Below w.heap.size w w' → w'.cell? ⟨wk, 0, none⟩ = some (.slice (some ⟨g, 0, none⟩) f.length c) ∧ w'.cell? ⟨wk, 2, none⟩ = some (.int .i64 o.id) ∧ w'.cell? ⟨wk, 3, none⟩ = some (.int .i64 o.to) ∧
    w'.cell? ⟨g, o.to.toNat * 6, none⟩ = some (.int .i64 (at_ f o.to).kind) ∧ w'.cell? ⟨g, o.to.toNat * 6 + 1, none⟩ = some (.string (at_ f o.to).name) ∧ w'.cell? ⟨g, o.to.toNat * 6 + 2, none⟩ = some (.string (at_ f o.to).text) ∧ w'.cell? ⟨g, o.to.toNat * 6 + 3, none⟩ = some (.slice Aa (at_ f o.to).attrs.length ca) ∧
    w'.cell? ⟨g, o.to.toNat * 6 + 4, none⟩ = some (.int .i64 (at_ f o.to).parent) ∧ w'.cell? ⟨g, o.to.toNat * 6 + 5, none⟩ = some (.slice Ak (at_ f o.to).kids.length ck) := fun w' hw' => ⟨cell_grow hw' c0, cell_grow hw' c2, cell_grow hw' c3, cell_grow hw' k0, cell_grow hw' k1, cell_grow hw' k2, cell_grow hw' k3, cell_grow hw' k4, cell_grow hw' k5⟩
  rw [hto] at c3 k0 k1 k2 k3 k4 k5 hca hck hb hany hcc
  simp only [Int.toNat_natCast] at k0 k1 k2 k3 k4 k5 hcc
  have hb2 := hb
  have Hany := Lib.hid hany; have His := Lib.hid his; have Hb := Lib.hid hb2; have Hcc := Lib.hid hcc; have Hto := Lib.hid hto
  generalize (at_ f (t : Int)).kind = kd at *
  generalize (at_ f (t : Int)).name = nm at *
  generalize (at_ f (t : Int)).text = tx at *
  generalize (at_ f (t : Int)).parent = par at *
  generalize (at_ f (t : Int)).kids.length = nk at *
  generalize (at_ f (t : Int)).attrs.length = na at *
  clear hany his hb hb2 hcc h ra rk hkids hrk hfam hi ht hm hto hav
  go_enter Tryz.func109, Tryz.ntmps109
  go_wp2_with fail
  obtain ⟨bx, hbx⟩ : ∃ bx, bx = w.heap.size := ⟨_, rfl⟩
  obtain ⟨w1, hw1⟩ : ∃ w1, w.alloc (.cells #[.pointer (some ⟨wk, 0, none⟩)] 107) = w1 := ⟨_, rfl⟩
  have hb1 : Below w.heap.size w w1 := by rw [← hw1]; exact (Below.refl _ _).alloc (Nat.le_refl _) _
  have q : w1.cell? ⟨bx, 0, none⟩ = some (.pointer (some ⟨wk, 0, none⟩)) := by rw [← hw1, hbx]; exact (cell_of_row _ _ _ _ _ _ (World.alloc_heap_new _ _)).trans rfl
  have hbl : bx < w1.heap.size := by rw [← hw1, hbx]; simp
  rw [hw1, ← hbx]
  obtain ⟨p0, p2, p3, q0, q1, q2, q3, q4, q5⟩ := Hcc.out w1 hb1
  have Hb1 := Lib.hid hb1
  clear hb1 hw1 hbx c0 c1 c2 c3 c4 c5 c6 k0 k1 k2 k3 k4 k5
  go_region_held3 (fun w' => w'.cell? ⟨bx, 0, none⟩ = some (.pointer (some ⟨wk, 0, none⟩)) ∧ w'.cell? ⟨wk, 0, none⟩ = some (.slice (some ⟨g, 0, none⟩) f.length c) ∧ w'.cell? ⟨wk, 3, none⟩ = some (.int .i64 t) ∧ w'.cell? ⟨g, t * 6, none⟩ = some (.int .i64 kd) ∧ w'.cell? ⟨g, t * 6 + 1, none⟩ = some (.string nm) ∧ w'.cell? ⟨g, t * 6 + 2, none⟩ = some (.string tx) ∧ w'.cell? ⟨g, t * 6 + 3, none⟩ = some (.slice Aa na ca) ∧ w'.cell? ⟨g, t * 6 + 4, none⟩ = some (.int .i64 par) ∧ w'.cell? ⟨g, t * 6 + 5, none⟩ = some (.slice Ak nk ck))
    (first | exact ⟨q, p0, p3, q0, q1, q2, q3, q4, q5⟩ | go_keep)
    ((fail))
  rename_i hSS
  clear hSS
  obtain ⟨bt, hbt⟩ : ∃ bt, bt = w1.heap.size := ⟨_, rfl⟩
  obtain ⟨w2, hw2⟩ : ∃ w2, (w1.alloc (.cells #[.int .i64 kd, .string nm, .string tx, .slice Aa na ca, .int .i64 par, .slice Ak nk ck] 55)).drew = w2 := ⟨_, rfl⟩
  have hb12 : Below w1.heap.size w1 w2 := by rw [← hw2]; exact ((Below.refl _ _).alloc (Nat.le_refl _) _).drew
  have hb2 : Below w.heap.size w w2 := bthen Hb1.out hb12
  have e2 : w2.heap[bt]? = some (.cells #[.int .i64 kd, .string nm, .string tx, .slice Aa na ca, .int .i64 par, .slice Ak nk ck] 55 (0, 0)) := by rw [← hw2, hbt]; exact heap_alloc_new w1 _
  have r := cell_grow hb12 q
  have r0 : w2.cell? ⟨bt, 0, none⟩ = some (.int .i64 kd) := (cell_of_row _ _ _ _ _ _ e2).trans rfl
  have r5 : w2.cell? ⟨bt, 5, none⟩ = some (.slice Ak nk ck) := (cell_of_row _ _ _ _ _ _ e2).trans rfl
  have hb2l := lt_heap e2
  have hbl2 : bx < w2.heap.size := Nat.lt_of_lt_of_le hbl hb12.size
  rw [hw2, ← hbt]
  obtain ⟨s0, s2, s3, _, _, _, _, _, _⟩ := Hcc.out w2 hb2
  have Hb2 := Lib.hid hb2
  have Hbt2 := Lib.hid hb12
  clear hb2 hb12 hw2 hbt e2 q p0 p2 p3 q0 q1 q2 q3 q4 q5 Hcc Hb1
  have hbits := Hb.out
  by_cases h0 : o.id = 0
  · have e1 : (o.id == 0) = true := by rw [h0]; rfl
    have := hbits.1 h0
    subst this
    rw [h0] at s2
    clear hbits Hb h0 e1
    go_wp2_with fail
    go_ret
    exact ⟨rfl, Hb2.out⟩
  · have e1 : (o.id == 0) = false := by rw [beq_eq_false_iff_ne]; exact h0
    by_cases h1 : kd = 0 ∨ kd = 1
    · have hbb := hbits.2.2 h0 h1
      obtain ⟨ko, hko⟩ : ∃ ko, (at_ f o.id).kind = ko := ⟨_, rfl⟩
      rw [hko] at hbb His
      have Hbb := Lib.hid hbb
      have hi3 := His.out w2 Hb2.out 3 rfl
      have hi1 := fun w' (hw' : Below w2.heap.size w2 w') => His.out w' (bthen Hb2.out hw') 1 rfl
      have hany := fun w' (hw' : Below w2.heap.size w2 w') => Hany.out w' (bthen Hb2.out hw') bx (cell_grow hw' r)
      have hgrow := fun w' (hw' : Below w2.heap.size w2 w') => (⟨cell_grow hw' r, cell_grow hw' r5⟩ : w'.cell? ⟨bx, 0, none⟩ = some (.pointer (some ⟨wk, 0, none⟩)) ∧ w'.cell? ⟨bt, 5, none⟩ = some (.slice Ak nk ck))
      have Hi3 := Lib.hid hi3; have Hi1 := Lib.hid hi1; have Hany2 := Lib.hid hany; have Hgrow := Lib.hid hgrow
      clear hbits Hb hko hbb hi3 hi1 hany hgrow Hany His
      rcases h1 with rfl | rfl
      all_goals
        by_cases ht : (t : Int) = 0
        · obtain rfl : t = 0 := by omega
          cases h3 : (ko == 3) with
          | true =>
            have hfin : bb = true := by rw [Hbb.out, h3]; simp
            subst hfin
            rw [h3] at Hi3
            go_wp2_with (go_at_call 128; (with_reducible refine (Hi3.out).mono ?_); rintro e w5 ⟨rfl, hb5⟩; have Hb5 := Lib.hid hb5; clear hb5)
            go_ret
            exact ⟨rfl, bthen Hb2.out (bthen ((Below.refl _ _).alloc (Nat.le_refl _) _) Hb5.out)⟩
          | false =>
            rw [h3] at Hi3
            cases h4 : (ko == 1) with
            | false =>
              have hfin : bb = false := by rw [Hbb.out, h3, h4]; simp
              subst hfin
              rw [h4] at Hi1
              go_wp2_with (first
                | (go_at_call 128; (with_reducible refine (Hi3.out).mono ?_); rintro e w5 ⟨rfl, hb5⟩; have hb6 := bthen ((Below.refl _ _).alloc (Nat.le_refl _) _) hb5; obtain ⟨u0, u5⟩ := Hgrow.out w5 hb6; have Hb6 := Lib.hid hb6; clear hb5 hb6)
                | (go_at_call 128; (with_reducible refine (Hi1.out _ Hb6.out).mono ?_); rintro e w7 ⟨rfl, hb7⟩; have Hb7 := Lib.hid hb7; clear hb7))
              go_ret
              exact ⟨rfl, bthen Hb2.out (bthen Hb6.out (bthen ((Below.refl _ _).alloc (Nat.le_refl _) _) Hb7.out))⟩
            | true =>
              have hfin : bb = !av := by rw [Hbb.out, h3, h4]; simp
              subst hfin
              rw [h4] at Hi1
              go_wp2_with (first
                | (go_at_call 128; (with_reducible refine (Hi3.out).mono ?_); rintro e w5 ⟨rfl, hb5⟩; have hb6 := bthen ((Below.refl _ _).alloc (Nat.le_refl _) _) hb5; obtain ⟨u0, u5⟩ := Hgrow.out w5 hb6; have Hb6 := Lib.hid hb6; clear hb5 hb6)
                | (go_at_call 128; (with_reducible refine (Hi1.out _ Hb6.out).mono ?_); rintro e w7 ⟨rfl, hb7⟩; have hb8 := bthen Hb6.out (bthen ((Below.refl _ _).alloc (Nat.le_refl _) _) hb7); obtain ⟨v0, v5⟩ := Hgrow.out w7 hb8; have Hb8 := Lib.hid hb8; clear hb7 hb8)
                | (go_at_call 169; (with_reducible refine (Hany2.out _ Hb8.out).mono ?_); rintro e w9 ⟨rfl, rfl⟩))
              go_ret
              exact ⟨rfl, bthen Hb2.out Hb8.out⟩
        · have e5 : ((t : Int) != 0) = true := by rw [bne_iff_ne]; exact ht
          have hfin : bb = true := by rw [Hbb.out, decide_eq_true ht]; simp
          subst hfin
          go_wp2_with fail
          go_ret
          exact ⟨rfl, Hb2.out⟩
    · have n0 : kd ≠ 0 := fun h => h1 (.inl h)
      have n1 : kd ≠ 1 := fun h => h1 (.inr h)
      have := hbits.2.1 n0 n1
      subst this
      have e3 : (kd != 0) = true := by rw [bne_iff_ne]; exact n0
      have e4 : (kd != 1) = true := by rw [bne_iff_ne]; exact n1
      clear hbits Hb
      go_wp2_with fail
      go_ret
      exact ⟨rfl, Hb2.out⟩
end
end Go.Proofs.YthdenkkllpkplaaGreat.Work
end
section
/- apply.One: its checks and its doings, all of them. -/
namespace Go.Proofs.YthdenkkllpkplaaGreat.Doings
open Go Go.RowKit Go.Proofs.YthdenkkllpkplaaGreat.Seq Go.Proofs.YthdenkkllpkplaaGreat.WS Go.Proofs.YthdenkkllpkplaaGreat.FS Go.Proofs.YthdenkkllpkplaaGreat.Mem Go.Proofs.YthdenkkllpkplaaGreat.Rd Go.Proofs.YthdenkkllpkplaaGreat.Shapes Go.Proofs.YthdenkkllpkplaaGreat.OwnF Go.Proofs.YthdenkkllpkplaaGreat.Work
set_option linter.unusedVariables false
set_option linter.unusedSimpArgs false

noncomputable def ckL (f : Fo) (o : Opn) : Nat → List Ck
  | 1 => [⟨74, 101, namedB o⟩, ⟨2, 102, roomB f⟩]
  | 2 => [⟨74, 105, textedB o⟩, ⟨2, 102, roomB f⟩]
  | 3 => [⟨74, 105, textedB o⟩, ⟨2, 102, roomB f⟩]
  | 4 => [⟨70, 100, knownB f o⟩, ⟨70, 108, isNode f o.to⟩, ⟨71, 109, liesB f o⟩, ⟨72, 110, !belowB f o.id o.to⟩, ⟨73, 111, fitsB f o⟩]
  | 5 => [⟨70, 100, knownB f o⟩, ⟨71, 117, o.id != 0⟩, ⟨3, 118, (at_ f o.id).parent != -1⟩]
  | 6 => [⟨70, 100, knownB f o⟩, ⟨71, 119, elemB f o⟩, ⟨74, 101, namedB o⟩, ⟨75, 120, hasA f o || decide ((at_ f o.id).attrs.length < 8)⟩]
  | 7 => [⟨70, 100, knownB f o⟩, ⟨71, 119, elemB f o⟩, ⟨75, 123, hasA f o⟩]
  | _ => [⟨70, 100, knownB f o⟩, ⟨71, 127, (at_ f o.id).kind == 2 || (at_ f o.id).kind == 3⟩, ⟨74, 105, textedB o⟩]
theorem kinds8 {k : Nat} (h1 : 1 ≤ k) (h8 : k ≤ 8) : k = 1 ∨ k = 2 ∨ k = 3 ∨ k = 4 ∨ k = 5 ∨ k = 6 ∨ k = 7 ∨ k = 8 := by omega
theorem ck_row (f : Fo) (o : Opn) {k : Nat} (h1 : 1 ≤ k) (h8 : k ≤ 8) : rowsD k = (ckRow (ckL f o k)).toArray ∧ lenD k = (ckL f o k).length := by
  rcases kinds8 h1 h8 with rfl | rfl | rfl | rfl | rfl | rfl | rfl | rfl <;> exact ⟨rfl, rfl⟩
theorem ck_first (f : Fo) (o : Opn) {k : Nat} (h1 : 1 ≤ k) (h8 : k ≤ 8) (hk : o.kind = k) : firstC (ckL f o k) = firstE (checks f o) := by
  unfold checks
  rcases kinds8 h1 h8 with rfl | rfl | rfl | rfl | rfl | rfl | rfl | rfl
  all_goals
    simp only [hk]
    rfl
def allK : List Nat := [101, 102, 105, 100, 108, 109, 110, 111, 117, 118, 119, 120, 123, 127, 103, 106, 107, 112, 113, 122, 124, 129]
theorem enters_all : ∀ K ∈ allK, ∀ args w, (callFunc K args).run Tryz.prog w = .ok (.enter K args) w := by
  intro K hK
  simp only [allK, List.mem_cons, List.not_mem_nil, or_false] at hK
  rcases hK with rfl | rfl | rfl | rfl | rfl | rfl | rfl | rfl | rfl | rfl | rfl | rfl | rfl | rfl | rfl | rfl | rfl | rfl | rfl | rfl | rfl | rfl
  · exact enters_of Tryz.func101 (by kernel_rfl) rfl
  · exact enters_of Tryz.func102 (by kernel_rfl) rfl
  · exact enters_of Tryz.func105 (by kernel_rfl) rfl
  · exact enters_of Tryz.func100 (by kernel_rfl) rfl
  · exact enters_of Tryz.func108 (by kernel_rfl) rfl
  · exact enters_of Tryz.func109 (by kernel_rfl) rfl
  · exact enters_of Tryz.func110 (by kernel_rfl) rfl
  · exact enters_of Tryz.func111 (by kernel_rfl) rfl
  · exact enters_of Tryz.func117 (by kernel_rfl) rfl
  · exact enters_of Tryz.func118 (by kernel_rfl) rfl
  · exact enters_of Tryz.func119 (by kernel_rfl) rfl
  · exact enters_of Tryz.func120 (by kernel_rfl) rfl
  · exact enters_of Tryz.func123 (by kernel_rfl) rfl
  · exact enters_of Tryz.func127 (by kernel_rfl) rfl
  · exact enters_of Tryz.func103 (by kernel_rfl) rfl
  · exact enters_of Tryz.func106 (by kernel_rfl) rfl
  · exact enters_of Tryz.func107 (by kernel_rfl) rfl
  · exact enters_of Tryz.func112 (by kernel_rfl) rfl
  · exact enters_of Tryz.func113 (by kernel_rfl) rfl
  · exact enters_of Tryz.func122 (by kernel_rfl) rfl
  · exact enters_of Tryz.func124 (by kernel_rfl) rfl
  · exact enters_of Tryz.func129 (by kernel_rfl) rfl
theorem ck_K (f : Fo) (o : Opn) {k : Nat} (h1 : 1 ≤ k) (h8 : k ≤ 8) : ∀ K ∈ (ckL f o k).map Ck.K, K ∈ allK := by
  rcases kinds8 h1 h8 with rfl | rfl | rfl | rfl | rfl | rfl | rfl | rfl
  all_goals
    simp only [ckL, List.map_cons, List.map_nil]
    decide
theorem ck_enters (f : Fo) (o : Opn) {k : Nat} (h1 : 1 ≤ k) (h8 : k ≤ 8) : ∀ x ∈ ckL f o k, ∀ args w, (callFunc x.K args).run Tryz.prog w = .ok (.enter x.K args) w :=
  fun x hx => enters_all x.K (ck_K f o h1 h8 _ (List.mem_map_of_mem hx))
theorem do_enters {k : Nat} (h1 : 1 ≤ k) (h8 : k ≤ 8) : ∀ args w, (callFunc (doD k) args).run Tryz.prog w = .ok (.enter (doD k) args) w := by
  refine enters_all (doD k) ?_
  rcases kinds8 h1 h8 with rfl | rfl | rfl | rfl | rfl | rfl | rfl | rfl <;> decide
section
variable [Avoid] {base wk g c : Nat} {o : Opn} {f : Fo}
theorem ck_chk (hm : mayB f = true) {k : Nat} (h1 : 1 ≤ k) (h8 : k ≤ 8) : ∀ i (hi : i < (ckL f o k).length), (∀ j (hj : j < (ckL f o k).length), j < i → (ckL f o k)[j].b = true) → Chk (ckL f o k)[i].K base wk g c o f (ckL f o k)[i].b := by
  intro i hi hb
  rcases kinds8 h1 h8 with rfl | rfl | rfl | rfl | rfl | rfl | rfl | rfl
  · rcases (show i = 0 ∨ i = 1 by have : i < 2 := hi; omega) with rfl | rfl
    · exact named_chk
    · exact room_chk
  · rcases (show i = 0 ∨ i = 1 by have : i < 2 := hi; omega) with rfl | rfl
    · exact texted_chk
    · exact room_chk
  · rcases (show i = 0 ∨ i = 1 by have : i < 2 := hi; omega) with rfl | rfl
    · exact texted_chk
    · exact room_chk
  · rcases (show i = 0 ∨ i = 1 ∨ i = 2 ∨ i = 3 ∨ i = 4 by have : i < 5 := hi; omega) with rfl | rfl | rfl | rfl | rfl
    · exact known_chk
    · exact to_chk
    · exact lies_chk hm (hb 0 (by simp [ckL]) (by decide)) (hb 1 (by simp [ckL]) (by decide))
    · exact cycle_chk hm
    · exact fits_chk (hb 0 (by simp [ckL]) (by decide)) (hb 1 (by simp [ckL]) (by decide))
  · rcases (show i = 0 ∨ i = 1 ∨ i = 2 by have : i < 3 := hi; omega) with rfl | rfl | rfl
    · exact known_chk
    · exact zero_chk
    · exact parent_chk (hb 0 (by simp [ckL]) (by decide))
  · rcases (show i = 0 ∨ i = 1 ∨ i = 2 ∨ i = 3 by have : i < 4 := hi; omega) with rfl | rfl | rfl | rfl
    · exact known_chk
    · exact element_chk (hb 0 (by simp [ckL]) (by decide))
    · exact named_chk
    · exact sets_chk (hb 0 (by simp [ckL]) (by decide))
  · rcases (show i = 0 ∨ i = 1 ∨ i = 2 by have : i < 3 := hi; omega) with rfl | rfl | rfl
    · exact known_chk
    · exact element_chk (hb 0 (by simp [ckL]) (by decide))
    · exact has_chk (hb 0 (by simp [ckL]) (by decide))
  · rcases (show i = 0 ∨ i = 1 ∨ i = 2 by have : i < 3 := hi; omega) with rfl | rfl | rfl
    · exact known_chk
    · exact texts_chk (hb 0 (by simp [ckL]) (by decide))
    · exact texted_chk
end
section
variable {base wk g c : Nat} {o : Opn} {f : Fo}
theorem attrs_le (hm : mayB f = true) {i : Int} (hi : isNode f i = true) : (at_ f i).attrs.length ≤ 8 := by
  obtain ⟨n, rfl, hn⟩ := node_nat hi
  have h := ((may_is hm).node n hn).1
  unfold plainB at h
  split at h
  · simp only [Bool.and_eq_true, decide_eq_true_eq] at h
    rw [h.2]; simp
  · split at h
    · simp only [Bool.and_eq_true] at h
      exact ((attrsB_iff _).1 h.2).2.2
    · split at h
      · simp only [Bool.and_eq_true, decide_eq_true_eq] at h
        rw [h.1.2]; simp
      · cases h
end
section
variable [Avoid] {base wk g c : Nat} {o : Opn} {f : Fo}
theorem do_all (hm : mayB f = true) {k : Nat} (h1 : 1 ≤ k) (h8 : k ≤ 8) (hk : o.kind = k) (hch : ∀ c ∈ checks f o, c.2 = true) (hn : o.name.size ≤ maxLen) (ht : o.text.size ≤ maxLen) (hw1 : (Lit.int .i64 o.id).wf = true) (hw2 : (Lit.int .i64 o.to).wf = true) (hbw : base ≤ wk) :
    Do (doD k) base wk g c o f (doF f o) := by
  have hl := may_len hm
  unfold checks at hch
  unfold doF
  rcases kinds8 h1 h8 with rfl | rfl | rfl | rfl | rfl | rfl | rfl | rfl
  · rw [if_pos (by omega)]
    exact fresh1_do (by omega) (by omega) hn ht hbw (by omega)
  · rw [if_pos (by omega)]
    exact fresh2_do (by omega) (by omega) hn ht hbw (by omega)
  · rw [if_pos (by omega)]
    exact fresh3_do (by omega) (by omega) hn ht hbw (by omega)
  · rw [if_neg (by omega), if_pos (by omega)]
    rw [if_neg (by omega), if_neg (by omega), if_pos (by omega)] at hch
    exact insert_do hm (hch (70, knownB f o) (by simp)) (hch (70, isNode f o.to) (by simp)) (hch (73, fitsB f o) (by simp)) hw1 hw2 hbw
  · rw [if_neg (by omega), if_neg (by omega), if_pos (by omega)]
    rw [if_neg (by omega), if_neg (by omega), if_neg (by omega), if_pos (by omega)] at hch
    exact take_do hm (hch (70, knownB f o) (by simp)) hbw
  · rw [if_neg (by omega), if_neg (by omega), if_neg (by omega), if_pos (by omega)]
    rw [if_neg (by omega), if_neg (by omega), if_neg (by omega), if_neg (by omega), if_pos (by omega)] at hch
    have hi := hch (70, knownB f o) (by simp)
    exact set_do hm hi (attrs_le hm hi) hn ht hbw
  · rw [if_neg (by omega), if_neg (by omega), if_neg (by omega), if_neg (by omega), if_pos (by omega)]
    rw [if_neg (by omega), if_neg (by omega), if_neg (by omega), if_neg (by omega), if_neg (by omega), if_pos (by omega)] at hch
    have hi := hch (70, knownB f o) (by simp)
    exact unset_do hi (attrs_le hm hi) (hch (75, hasA f o) (by simp))
  · rw [if_neg (by omega), if_neg (by omega), if_neg (by omega), if_neg (by omega), if_neg (by omega)]
    rw [if_neg (by omega), if_neg (by omega), if_neg (by omega), if_neg (by omega), if_neg (by omega), if_neg (by omega)] at hch
    exact change_do (hch (70, knownB f o) (by simp)) ht
end
end Go.Proofs.YthdenkkllpkplaaGreat.Doings
end
