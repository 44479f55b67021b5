/- Joined by a program: AOneB, OpsR, BndA, FnS, FnI. -/
import Derived.Test.YthdenkkllpkplaaGreatC13
import Derived.Test.YthdenkkllpkplaaGreatC09
import Derived.Test.YthdenkkllpkplaaGreatC03
import Derived.Test.YthdenkkllpkplaaGreatC01
import Derived.Test.YthdenkkllpkplaaGreatC04
section
/- apply.One: one operation. -/
namespace Go.Proofs.YthdenkkllpkplaaGreat.Doings
open Go Go.RowKit Go.Proofs.YthdenkkllpkplaaGreat.Seq Go.Proofs.YthdenkkllpkplaaGreat.WS Go.Proofs.YthdenkkllpkplaaGreat.FS Go.Proofs.YthdenkkllpkplaaGreat.Mem Go.Proofs.YthdenkkllpkplaaGreat.Rd Go.Proofs.YthdenkkllpkplaaGreat.Shapes Go.Proofs.YthdenkkllpkplaaGreat.OwnF Go.Proofs.YthdenkkllpkplaaGreat.Work
set_option linter.unusedVariables false
set_option linter.unusedSimpArgs false

theorem pl_clone_lo {L : Nat} {ops : Array Oper} {rest : List Oper} {o : Oper} {a : Act} {Q : Exit → Act → World → Prop} (W : World) (hgd : o.guard = none) (s x : Operand)
    (ho : o.op = .call { callee := .builtin .append, args := #[s, x], argTypes := #[28, 28] }) (A : Option Addr) (c : Nat) (f : Fo) (hs : a.eval s = .slice (some ⟨W.heap.size, 0, none⟩) 0 0) (hx : a.eval x = .slice A f.length c)
    (hf : LoF L W (.slice A f.length c) f) (h0 : 0 < f.length) (h1 : f.length ≤ 1000)
    (h : ∀ g cap w1, OwnX (fun b => L ≤ b) 55 W.heap.size w1 (.slice (some ⟨g, 0, none⟩) f.length cap) f → Below W.heap.size W w1 → W.heap.size ≤ g → g < w1.heap.size → wpList Tryz.prog ops Q rest (a.put o.dst (.slice (some ⟨g, 0, none⟩) f.length cap)) w1) :
    wpList Tryz.prog ops Q (o :: rest) a (W.alloc (.cells #[] 55)) := by
  obtain ⟨i0, hi, hz0, hz1, hz2⟩ := info_parts LKinds.info_node
  obtain ⟨b, off, xs, rfl, hb, hl, hc, hn⟩ := lo_cells hf h0
  have hown : (W.alloc (.cells #[] 55)).ownsRow W.heap.size 55 6 (.slice (some ⟨W.heap.size, 0, none⟩) 0 0) 0 [] := World.ownsRow_made W #[] 0 (Nat.le_refl _) (by simp [maxLen]) (by simp)
  have hone : ∀ u ∈ xs, u.oneCell' = true := by
    intro u hu
    obtain ⟨j, hj, rfl⟩ := List.mem_iff_getElem.1 hu
    have h6 := hn (j / 6) (by omega)
    refine h6.one _ ?_
    rw [List.mem_iff_getElem?]
    refine ⟨j % 6, ?_⟩
    rw [List.getElem?_take, if_pos (Nat.mod_lt _ (by decide)), List.getElem?_drop, show j / 6 * 6 + j % 6 = j by omega, List.getElem?_eq_getElem hj]
  refine wpList_append_own_at (W.alloc (.cells #[] 55)) hgd s x 28 ho W.heap.size 55 i0 _ 6 96 Tryz.underlying28 hi hz0 hz1 hz2 rfl (by decide) _ 0 [] hs hown ⟨b, off, none⟩ f.length c xs hx (by omega) (fun j u hj => ?_) hone (by simp only [maxLen]; omega) (by omega) (by simp) ?_
  · rw [Addr.add_lit]
    exact cell_alloc (hc j u hj) _
  · intro v' w' ho' hg' hnil hat
    have hO := OwnX.more (X := fun b => L ≤ b) (f := []) (g := f) (v' := v') hown (fun i hi => absurd hi (by simp)) hl (fun i hi => (hn i hi).keep (w' := W.alloc (.cells #[] 55)) (fun b hb hlt => Below.heap_alloc _ _ _ hlt) (by simp) (fun b hb hlt => ⟨fun e => by injection e with e; have : W.heap.size = b := e; omega, hb⟩)) (by simpa using ho') hg' (by
      rcases hat with e | e
      · exact .inl e
      · exact .inr e)
    rw [List.nil_append] at hO
    obtain ⟨g, cap, rfl, hge, hlt, _⟩ := hO.own.form h0
    refine h g cap w' hO ?_ hge hlt
    exact ((Off.alloc (fun b => W.heap.size ≤ b) W _).trans (Off.grown hg' (fun r hr => by injection hr with hr; have : W.heap.size = r := hr; omega))).toBelow (Nat.le_refl _) (fun b hb => hb)
def CloneFPost (L : Nat) (f : Fo) (w : World) (e : Ending) (w' : World) : Prop := ∃ g c, e = .returned (.slice (some ⟨g, 0, none⟩) f.length c) ∧ OwnX (fun b => L ≤ b) 55 w.heap.size w' (.slice (some ⟨g, 0, none⟩) f.length c) f ∧ Below w.heap.size w w' ∧ f.length ≤ c ∧ c ≤ maxLen
set_option maxRecDepth 100000 in
set_option maxHeartbeats 2000000 in
theorem cloneF_calls (L : Nat) (w : World) (v : Value) (f : Fo) (h : LoF L w v f) (h0 : 0 < f.length) (hl : f.length ≤ 1000) : Calls Tryz.prog 52 #[v] w (CloneFPost L f w) := by
  obtain ⟨A, c, rfl, hc, hm, hr⟩ := h.rd.form
  obtain ⟨b, off, cs, rfl, _⟩ := hr.at_ h0
  have q22 : ∀ (w : World) (a : Option Addr) (n c n' c' : Nat), (binOp .eql 28 (.slice a n c) (.slice none n' c')).run Tryz.prog w = .ok (.bool a.isNone) w := fun w a n c n' c' => Lib.run_eql_slice_nil w _ _ a n c n' c' Tryz.underlying28
  have Hr := Lib.hid h
  clear h hr
  go_enter Tryz.func52, Tryz.ntmps52
  go_wp2_with (at_builtin; go_loud (refine pl_clone_lo (L := L) w rfl _ _ rfl _ _ f rfl rfl Hr.out h0 hl ?_; intro g7 cap7 w7 hown7 hb7 hg7 hlt7; have Hown7 := Lib.hid hown7; have Hb7 := Lib.hid hb7; clear hown7 hb7))
  go_ret
  obtain ⟨_, _, e, _, _, _, h1, h2⟩ := Hown7.out.own.form h0
  injection e with _ _ e
  subst e
  exact ⟨_, _, rfl, Hown7.out, Hb7.out, h1, h2⟩
def LoPost (L : Nat) (f : Fo) (o : Opn) (w : World) (e : Ending) (w' : World) : Prop := ∃ v', e = .returned (.tuple #[v', .int .i64 (oneE f o)]) ∧ LoF L w' v' (oneF f o) ∧ Below w.heap.size w w'
def OnePost (f : Fo) (o : Opn) (w : World) (e : Ending) (w' : World) : Prop := ∃ v', e = .returned (.tuple #[v', .int .i64 (oneE f o)]) ∧ RdF w'.heap.size w' v' (oneF f o) ∧ Below w.heap.size w w'
def DPost (N k : Nat) (w0 : World) (e : Ending) (w' : World) : Prop := e = .returned (.map (some (N + 1))) ∧ Below w0.heap.size w0 w' ∧ w'.heap[N + 1]? = some (.map ((esD N 8).map mkV).toArray 8) ∧ w'.heap[N + 1 + k]? = some (.cells (rowsD k) 176 (0, 0))
theorem one_bad {f : Fo} {o : Opn} (h : oneE f o ≠ 0) : oneF f o = f := by unfold oneF; rw [if_neg h]
set_option maxRecDepth 100000 in
set_option maxHeartbeats 8000000 in
theorem one_lo [Avoid] (w : World) (v : Value) (f : Fo) (o : Opn) (h : LoF Avoid.lo w v f) (hlo : Avoid.lo ≤ w.heap.size) (hm : mayB f = true) (hn : o.name.size ≤ maxLen) (ht : o.text.size ≤ maxLen) (hw1 : (Lit.int .i64 o.id).wf = true) (hw2 : (Lit.int .i64 o.to).wf = true) :
    Calls Tryz.prog 21 #[v, .agg #[.int .i64 o.kind, .int .i64 o.id, .int .i64 o.to, .int .i64 o.at_, .string o.name, .string o.text]] w (LoPost Avoid.lo f o w) := by
  have hlen := may_len hm
  obtain ⟨w0, hw0⟩ : ∃ w0, w.alloc (.cells #[.int .i64 o.kind, .int .i64 o.id, .int .i64 o.to, .int .i64 o.at_, .string o.name, .string o.text] 24) = w0 := ⟨_, rfl⟩
  have hrow : w0.heap[w.heap.size]? = some (.cells (OpMay.opRow o) 24 (0, 0)) := by rw [← hw0]; exact World.alloc_heap_new w _
  have hb0 : Below w.heap.size w w0 := by rw [← hw0]; exact (Below.refl _ _).alloc (Nat.le_refl _) _
  have hs0 : w0.heap.size = w.heap.size + 1 := by rw [← hw0]; simp
  have hcell := fun w' (hb : Below w0.heap.size w0 w') => OpMay.op_cells ((hb.block w.heap.size (by omega)).trans hrow)
  have hop := OpMay.opMay_calls o w0
  have hrd := fun w' (hb : Below w.heap.size w w') => h.below hb
  obtain ⟨A0, n0, rfl, hl0, hc0, _⟩ := h.rd.form
  obtain ⟨c0, c1, c2, c3, c4, c5, cf⟩ := OpMay.op_cells hrow
  have Hw0 := Lib.hid hw0; have Hb0 := Lib.hid hb0; have Hcell := Lib.hid hcell; have Hrd := Lib.hid hrd; have Hs0 := Lib.hid hs0
  unfold OpMay.OpMayPost at hop
  cases hmo : mayO o with
  | false =>
    rw [hmo] at hop
    have he : oneE f o = 1 := by unfold oneE; rw [hmo]; rfl
    have hf := one_bad (f := f) (o := o) (by rw [he]; decide)
    have He := Lib.hid he; have Hf := Lib.hid hf; have Hop := Lib.hid hop
    clear hw0 hb0 hcell hrd hop hrow h he hf hmo hs0
    go_enter Tryz.func21, Tryz.ntmps21
    go_upto_region 1 with (fail)
    rw [Hw0.out]
    go_wp2_with (go_at_call 22; ((with_reducible refine (Hop.out).mono ?_); rintro e w5 ⟨rfl, hb5⟩; have Hb5 := Lib.hid hb5; clear hb5))
    go_ret2
    exact ⟨_, by rw [He.out]; rfl, by rw [Hf.out]; exact Hrd.out _ (bthen Hb0.out Hb5.out), bthen Hb0.out Hb5.out⟩
  | true =>
    rw [hmo] at hop
    have hk := (mayO_kind hmo).1
    obtain ⟨k, hko⟩ : ∃ k : Nat, o.kind = k := ⟨o.kind.toNat, by omega⟩
    have h1k : 1 ≤ k := by omega
    have h8 : k ≤ 8 := by omega
    have hclo := fun w' (hb : Below w.heap.size w w') => cloneF_calls Avoid.lo w' _ f (Hrd.out w' hb) (by omega) (by omega)
    have Hop := Lib.hid hop; have Hclo := Lib.hid hclo; have Hko := Lib.hid hko; have Hmo := Lib.hid hmo; have Hm := Lib.hid hm
    clear hw0 hb0 hcell hrd hop hrow h hclo hko hmo hm hs0 hk
    go_enter Tryz.func21, Tryz.ntmps21
    go_upto_region 1 with (fail)
    rw [Hw0.out]
    go_upto_region 3 with (go_at_call 22; ((with_reducible refine (Hop.out).mono ?_); rintro e w5 ⟨rfl, hb5⟩; have Hb5 := Lib.hid hb5; clear hb5))
    obtain ⟨d0, d1, d2, d3, d4, d5, df⟩ := Hcell.out _ Hb5.out
    have hb5 := bthen Hb0.out Hb5.out
    have hclo5 : ∀ W, (W = w5 ∨ W = w5.drew) → Calls Tryz.prog 52 #[.slice A0 f.length n0] W (fun e w' => ∃ g c, e = .returned (.slice (some ⟨g, 0, none⟩) f.length c) ∧ OwnX (fun b => Avoid.lo ≤ b) 55 w5.heap.size w' (.slice (some ⟨g, 0, none⟩) f.length c) f ∧ Below w5.heap.size w5 w' ∧ f.length ≤ c ∧ c ≤ maxLen) := by
      rintro W (rfl | rfl)
      · exact Hclo.out _ hb5
      · exact (Hclo.out _ (hb5.trans (Below.refl _ _).drew)).mono (fun e w' ⟨g, c, h1, h2, h3, h4⟩ => ⟨g, c, h1, h2, (Below.refl _ w5).drew.trans h3, h4⟩)
    have hcell5 := fun w' (hb : Below w5.heap.size w5 w') => Hcell.out w' (bthen Hb5.out hb)
    have Hclo5 := Lib.hid hclo5; have Hcell5 := Lib.hid hcell5; have HB5 := Lib.hid hb5
    clear hclo5 hcell5 hb5 c0 c1 c2 c3 c4 c5 cf Hclo Hcell
    go_region_held3 (fun w' => w'.cell? ⟨w.heap.size, 0, none⟩ = some (.int .i64 o.kind) ∧ w'.cell? ⟨w.heap.size, 1, none⟩ = some (.int .i64 o.id) ∧ w'.cell? ⟨w.heap.size, 2, none⟩ = some (.int .i64 o.to) ∧ w'.cell? ⟨w.heap.size, 3, none⟩ = some (.int .i64 o.at_) ∧ w'.cell? ⟨w.heap.size, 4, none⟩ = some (.string o.name) ∧ w'.cell? ⟨w.heap.size, 5, none⟩ = some (.string o.text))
      (first | exact ⟨d0, d1, d2, d3, d4, d5⟩ | exact ⟨e0, e1, e2, e3, e4, e5⟩ | go_keep)
      (first | (go_at_call 52; ((first | (with_reducible refine (Hclo5.out _ (.inl rfl)).mono ?_) | (with_reducible refine (Hclo5.out _ (.inr rfl)).mono ?_)); rintro e w6 ⟨g6, n6, rfl, ho6, hb6, hc6, hc6m⟩; obtain ⟨e0, e1, e2, e3, e4, e5, ef⟩ := Hcell5.out _ hb6; have Ho6 := Lib.hid ho6; have Hb6 := Lib.hid hb6; clear ho6 hb6)))
    obtain ⟨g', n', e', hgb6, hgl6, _⟩ := Ho6.out.own.form (by omega)
    injection e' with e' _ e2
    injection e' with e'
    injection e' with e'
    subst e' e2
    obtain ⟨w7, hw7⟩ : ∃ w7, w6.alloc (.cells #[.slice (some ⟨g6, 0, none⟩) f.length n6, .int .i64 o.kind, .int .i64 o.id, .int .i64 o.to, .int .i64 o.at_, .string o.name, .string o.text] 110) = w7 := ⟨_, rfl⟩
    have hs5 := HB5.out.size
    have hs6 := Hb6.out.size
    have hb7 : Below w6.heap.size w6 w7 := by rw [← hw7]; exact (Below.refl _ _).alloc (Nat.le_refl _) _
    have hown : OwnX (fun b => Avoid.lo ≤ b) 55 w.heap.size w6 (.slice (some ⟨g6, 0, none⟩) f.length n6) f := by
      obtain ⟨xs, h1, h2⟩ := Ho6.out
      exact ⟨xs, own_base h1 hs5, h2⟩
    have hW7 : Wk w.heap.size w6.heap.size g6 n6 o f w7 := by
      refine ⟨by rw [← hw7]; exact World.alloc_heap_new w6 _, (OwnX.both (Y := fun b => b ≠ w6.heap.size) hown (fun b hb => by show b ≠ w6.heap.size; omega)).below hb7, by omega, by simp only [maxLen] at hc6m; omega, hlo⟩
    have hbw7 : Below w.heap.size w w7 := bthen (bthen HB5.out Hb6.out) hb7
    have hcell7 := fun w' (hb : Below w7.heap.size w7 w') => (Hcell5.out w' (bthen (bthen Hb6.out hb7) hb)).1
    have hdo7 : ∀ W, (W = w7 ∨ W = w7.drew) → Calls Tryz.prog 53 #[] W (DPost w7.heap.size k w7) := by
      rintro W (rfl | rfl)
      · exact (doings_calls _).mono (fun e w' ⟨he, hd⟩ => ⟨he, hd.below, hd.map, hd.rows k h1k h8⟩)
      · exact (doings_calls w7.drew).mono (fun e w' ⟨he, hd⟩ => ⟨he, (Below.refl _ w7).drew.trans hd.below, hd.map, hd.rows k h1k h8⟩)
    have hlk : ∀ N W, W.heap[N + 1]? = some (.map ((esD N 8).map mkV).toArray 8) → (Instr.lookup 115 (.map (some (N + 1))) (.int .i64 o.kind) false).run Tryz.prog W = .ok (.agg #[.slice (some ⟨N + 1 + k, 0, none⟩) (lenD k) (lenD k), fnV (doD k)]) W := fun N W hW => by
      rw [Hko.out]
      exact run_lookup Tryz.underlying115 Tryz.underlying3 hW (k : Int) (valD N k) (esD_find _ 8 k h1k h8)
    have hdoB : Calls Tryz.prog 53 #[] (w7.alloc (.cells #[.slice none 0 0, Value.nilFunc] 114)).drew (fun e w' => DPost (w7.heap.size + 1) k w7 e w' ∧ w'.heap[w7.heap.size]? = some (.cells #[.slice none 0 0, Value.nilFunc] 114 (0, 0))) := by
      refine (doings_calls _).mono (fun e w' ⟨he, hd⟩ => ?_)
      have e1 : (w7.alloc (.cells #[.slice none 0 0, Value.nilFunc] 114)).drew.heap.size = w7.heap.size + 1 := World.size_alloc _ _
      have h1 : Below w7.heap.size w7 (w7.alloc (.cells #[.slice none 0 0, Value.nilFunc] 114)).drew := ((Below.refl _ _).alloc (Nat.le_refl _) _).drew
      rw [e1] at he hd
      exact ⟨⟨he, h1.trans (hd.below.mono (Nat.le_succ _)), hd.map, hd.rows k h1k h8⟩, (hd.below.block _ (by omega)).trans (World.alloc_heap_new w7 _)⟩
    have e7 := hcell7 w7 (Below.refl _ _)
    have hwl : ¬ (w.heap.size = w7.heap.size) := by have h1 := hb7.size; have h2 := Hb5.out.size; have h3 := Hs0.out; have h4 := Hb6.out.size; omega
    have hsf := store_func
    have HW7 := Lib.hid hW7; have Hbw7 := Lib.hid hbw7; have Hcell7 := Lib.hid hcell7; have Hdo7 := Lib.hid hdo7; have HdoB := Lib.hid hdoB; have Hlk := Lib.hid hlk
    rw [hw7]
    go_upto_region 4 with (fail)
    clear hW7 hbw7 hcell7 hdo7 hdoB hlk hw7 hb7 hown Ho6 Hb6 HB5 Hcell5 Hclo5 d0 d1 d2 d3 d4 d5 df e0 e1 e2 e3 e4 e5 ef
    go_cut [7] from 9 (fun s7 wx => ∃ D b : Nat, s7 = .pointer (some ⟨D, 0, none⟩) ∧ wx.heap[D]? = some (.cells #[.slice (some ⟨b, 0, none⟩) (lenD k) (lenD k), fnV (doD k)] 114 (0, 0)) ∧ wx.heap[b]? = some (.cells (rowsD k) 176 (0, 0)) ∧ Below w7.heap.size w7 wx)
    case first =>
     go_region_held3 (fun w' => w'.cell? ⟨w.heap.size, 0, none⟩ = some (.int .i64 o.kind))
       (first | exact e7 | exact e8 | exact (World.cell?_of_block ((Below.heap_setCell _ _ _ _ (fun e => hwl (by exact e))).trans (Below.heap_setCell _ _ _ _ (fun e => hwl (by exact e))))).trans e8 | go_keep)
       (first
         | (go_at_call 53; ((first | (with_reducible refine (Hdo7.out _ (.inl rfl)).mono ?_) | (with_reducible refine (Hdo7.out _ (.inr rfl)).mono ?_)); rintro e w8 ⟨rfl, hd8⟩; have e8 := Hcell7.out _ hd8.1; have l8 := Hlk.out _ w8 hd8.2.1; have l8d := Hlk.out _ w8.drew hd8.2.1; have l8a := Hlk.out _ (w8.alloc (.cells #[.slice none 0 0, Value.nilFunc] 114)) (heap_old hd8.2.1); have l8b := Hlk.out _ (w8.alloc (.cells #[.slice none 0 0, Value.nilFunc] 114)).drew (heap_old hd8.2.1); have Hd8 := Lib.hid hd8; clear hd8))
         | (go_at_call 53; ((with_reducible refine (HdoB.out).mono ?_); rintro e w8 ⟨⟨rfl, hd8⟩, hz8⟩; have e8 := Hcell7.out _ hd8.1; have l8 := Hlk.out _ w8 hd8.2.1; have l8d := Hlk.out _ w8.drew hd8.2.1; have l8a := Hlk.out _ (w8.alloc (.cells #[.slice none 0 0, Value.nilFunc] 114)) (heap_old hd8.2.1); have l8b := Hlk.out _ (w8.alloc (.cells #[.slice none 0 0, Value.nilFunc] 114)).drew (heap_old hd8.2.1); have z8 : w8.cell? ⟨w7.heap.size, 0, none⟩ = some (.slice none 0 0) := (cell_of_row _ _ _ _ _ _ hz8).trans rfl; have z9 : w8.cell? ⟨w7.heap.size, 1, none⟩ = some Value.nilFunc := (cell_of_row _ _ _ _ _ _ hz8).trans rfl; have zf := free_of hz8; have Hd8 := Lib.hid hd8; have Hz8 := Lib.hid hz8; clear hd8 hz8)))
     all_goals
       go_wp2_with fail
       go_meet
       first
         | exact ⟨w8.heap.size, w7.heap.size + 1 + k, rfl, World.alloc_heap_new w8 _, heap_old Hd8.out.2.2, Hd8.out.1.alloc Hd8.out.1.size _⟩
         | exact ⟨w7.heap.size, w7.heap.size + 1 + 1 + k, rfl, (Repl.setCell_row (Repl.setCell_row Hz8.out)).trans rfl, (Below.heap_setCell _ _ _ _ (fun e => by have e2 : w7.heap.size + 1 + 1 + k = w7.heap.size := e; omega)).trans ((Below.heap_setCell _ _ _ _ (fun e => by have e2 : w7.heap.size + 1 + 1 + k = w7.heap.size := e; omega)).trans Hd8.out.2.2), (Hd8.out.1.setCell (Nat.le_refl _) _).setCell (Nat.le_refl _) _⟩
    case rest =>
     obtain ⟨D, b, rfl, hD, hR, hB⟩ := hcut
     have t0 : wc.cell? ⟨D, 0, none⟩ = some (.slice (some ⟨b, 0, none⟩) (lenD k) (lenD k)) := (cell_of_row _ _ _ _ _ _ hD).trans rfl
     have t1 : wc.cell? ⟨D, 1, none⟩ = some (fnV (doD k)) := (cell_of_row _ _ _ _ _ _ hD).trans rfl
     have hWc := HW7.out.below hB
     obtain ⟨r1, r2⟩ := ck_row f o h1k h8
     rw [r1] at hR
     have hl5 : (ckL f o k).length ≤ 100 := by rw [← r2]; rcases kinds8 h1k h8 with rfl | rfl | rfl | rfl | rfl | rfl | rfl | rfl <;> decide
     have hfi := first_calls (ckL f o k) b wc hWc hR hl5 (ck_enters f o h1k h8) (ck_chk Hm.out h1k h8)
     rw [ck_first f o h1k h8 Hko.out, ← r2] at hfi
     have hE : oneE f o = firstE (checks f o) := by unfold oneE; rw [Hmo.out]; rfl
     have hbc : Below w.heap.size w wc := bthen Hbw7.out hB
     have hgr := fun w' (hb : Below wc.heap.size wc w') => cell_grow hb t1
     have hrdc := fun w' (hb : Below wc.heap.size wc w') => Hrd.out w' (bthen hbc hb)
     have heg := do_enters h1k h8
     have Hbc := Lib.hid hbc; have HE := Lib.hid hE; have Hgr := Lib.hid hgr; have Hrdc := Lib.hid hrdc; have HWc := Lib.hid hWc
     obtain ⟨E, hEq⟩ : ∃ E, firstE (checks f o) = E := ⟨_, rfl⟩
     have HEq := Lib.hid hEq
     rw [hEq] at hfi
     have Hfi := Lib.hid hfi
     clear hD hR hB hWc r1 r2 hl5 hfi hE hbc hgr hrdc hEq e7 hsf
     by_cases hE0 : E = 0
     · have hdo := do_all (base := w.heap.size) (wk := w6.heap.size) (g := g6) (c := n6) Hm.out h1k h8 Hko.out (first_zero _ (checks_ne f o) (HEq.out.trans hE0)) hn ht hw1 hw2 (by have := Hb5.out.size; have := Hs0.out; omega)
       have hof : oneF f o = doF f o := by unfold oneF; rw [if_pos (HE.out.trans (HEq.out.trans hE0))]
       have hdo2 : ∀ w', Wk w.heap.size w6.heap.size g6 n6 o f w' → Calls Tryz.prog (doD k) #[.pointer (some ⟨w6.heap.size, 0, none⟩)] w' (DoPost w.heap.size w6.heap.size o (doF f o) w') := fun w' h' => hdo w' h'
       have Hdo := Lib.hid hdo2; have Hof := Lib.hid hof
       subst hE0
       clear hdo hof hdo2
       go_wp2_with (first
         | (go_at_call 54; ((with_reducible refine (Hfi.out).mono ?_); rintro e w10 ⟨rfl, hb10⟩; have t10 := Hgr.out _ hb10; have Hb10 := Lib.hid hb10; clear hb10))
         | ((with_reducible refine (Hdo.out w10 (HWc.out.below Hb10.out)).mono ?_); rintro e w11 ⟨rfl, g11, c11, hW11, hb11⟩; have q11 := hW11.cells.1; have HW11 := Lib.hid hW11; have Hb11 := Lib.hid hb11; clear hW11 hb11))
       go_ret2
       exact ⟨_, by rw [HE.out, HEq.out]; rfl, by rw [Hof.out]; exact LoF.of_ownx HW11.out.ownx (fun b hb => hb.2) hlo, (bthen Hbc.out Hb10.out).trans Hb11.out⟩
     · have hof := one_bad (f := f) (o := o) (by rw [HE.out, HEq.out]; exact hE0)
       have Hof := Lib.hid hof
       have hE1 : (E != 0) = true := by rw [bne_iff_ne]; exact hE0
       clear hof
       go_wp2_with (first
         | (go_at_call 54; ((with_reducible refine (Hfi.out).mono ?_); rintro e w10 ⟨rfl, hb10⟩; have t10 := Hgr.out _ hb10; have Hb10 := Lib.hid hb10; clear hb10)))
       go_ret2
       exact ⟨_, by rw [HE.out, HEq.out]; rfl, by rw [Hof.out]; exact Hrdc.out _ Hb10.out, bthen Hbc.out Hb10.out⟩
theorem one_calls (w : World) (v : Value) (f : Fo) (o : Opn) (h : RdF w.heap.size w v f) (hm : mayB f = true) (hn : o.name.size ≤ maxLen) (ht : o.text.size ≤ maxLen) (hw1 : (Lit.int .i64 o.id).wf = true) (hw2 : (Lit.int .i64 o.to).wf = true) :
    Calls Tryz.prog 21 #[v, .agg #[.int .i64 o.kind, .int .i64 o.id, .int .i64 o.to, .int .i64 o.at_, .string o.name, .string o.text]] w (OnePost f o w) :=
  (@one_lo ⟨0⟩ w v f o (LoF.of_rd h) (Nat.zero_le _) hm hn ht hw1 hw2).mono (fun e w' ⟨v', h1, h2, h3⟩ => ⟨v', h1, h2.rd, h3⟩)
end Go.Proofs.YthdenkkllpkplaaGreat.Doings
end
section
/- How operations lie in memory. -/
namespace Go.Proofs.YthdenkkllpkplaaGreat.Shapes
open Go Go.RowKit Go.Deep Go.Proofs.YthdenkkllpkplaaGreat.Rd Go.Proofs.YthdenkkllpkplaaGreat.FS
set_option linter.unusedVariables false
def opE : Elem Opn := fun _ _ cs o => cs = [.int .i64 o.kind, .int .i64 o.id, .int .i64 o.to, .int .i64 o.at_, .string o.name, .string o.text] ∧ o.name.size ≤ maxLen ∧ o.text.size ≤ maxLen ∧ (Lit.int .i64 o.kind).wf = true ∧ (Lit.int .i64 o.id).wf = true ∧ (Lit.int .i64 o.to).wf = true ∧ (Lit.int .i64 o.at_).wf = true
theorem opE_keeps : opE.Keeps := fun _ _ _ _ _ _ h _ _ => h
abbrev RdO := RdL opE 6
section
variable {H : Type} {P : Program} {base : Nat} {spare : Nat → Bool} {held : Bool}
theorem opens_op {enc : TypeId × Value → H} {w : World} {e : TypeId} {f0 f1 f2 f3 f4 f5 : Field} (hs : P.underlying e = some (.struct #[f0, f1, f2, f3, f4, f5])) (hone : oneCellFields P #[f0, f1, f2, f3, f4, f5] = true) (hC : P.cellsOf e = 6)
    (h0 : P.underlying f0.type = some (.int .i64)) (h1 : P.underlying f1.type = some (.int .i64)) (h2 : P.underlying f2.type = some (.int .i64)) (h3 : P.underlying f3.type = some (.int .i64)) (h4 : P.underlying f4.type = some .string) (h5 : P.underlying f5.type = some .string) :
    Opens enc P w base spare held e opE := fun fuel cs x h => by
  obtain ⟨xs, n, _, hx, hlc, hlen, hg⟩ := DataW.trod_struct hs h
  rw [hC] at hlc
  match cs, hlc with
  | [c0, c1, c2, c3, c4, c5], _ =>
    obtain ⟨o0, k0⟩ := hone_of hone 0 f0 rfl
    obtain ⟨o1, k1⟩ := hone_of hone 1 f1 rfl
    obtain ⟨o2, k2⟩ := hone_of hone 2 f2 rfl
    obtain ⟨o3, k3⟩ := hone_of hone 3 f3 rfl
    obtain ⟨o4, k4⟩ := hone_of hone 4 f4 rfl
    obtain ⟨o5, k5⟩ := hone_of hone 5 f5 rfl
    match xs, hlen with
    | [y0, y1, y2, y3, y4, y5], _ =>
      have g0 := hg 0 f0 rfl
      have g1 := hg 1 f1 rfl
      have g2 := hg 2 f2 rfl
      have g3 := hg 3 f3 rfl
      have g4 := hg 4 f4 rfl
      have g5 := hg 5 f5 rfl
      simp [o0, k0] at g0
      simp [o1, k1] at g1
      simp [o2, k2] at g2
      simp [o3, k3] at g3
      simp [o4, k4] at g4
      simp [o5, k5] at g5
      obtain ⟨z0, e0, _, m0⟩ := DataW.trod_int h0 g0
      obtain ⟨z1, e1, _, m1⟩ := DataW.trod_int h1 g1
      obtain ⟨z2, e2, _, m2⟩ := DataW.trod_int h2 g2
      obtain ⟨z3, e3, _, m3⟩ := DataW.trod_int h3 g3
      obtain ⟨z4, e4, _, m4⟩ := DataW.trod_string h4 g4
      obtain ⟨z5, e5, _, m5⟩ := DataW.trod_string h5 g5
      simp at e0 e1 e2 e3 e4 e5
      exact ⟨⟨z0, z1, z2, z3, z4, z5⟩, by rw [e0, e1, e2, e3, e4, e5], m4, m5, m0, m1, m2, m3⟩
theorem opens_op_Op {enc : TypeId × Value → H} {w : World} : Opens enc Tryz.prog w base spare held 24 opE :=
  opens_op Tryz.underlying24 (by kernel_rfl) (by kernel_rfl) Tryz.underlying3 Tryz.underlying3 Tryz.underlying3 Tryz.underlying3 Tryz.underlying9 Tryz.underlying9
end
/-- An operation by value. -/
abbrev opV (o : Opn) : Value := .agg #[.int .i64 o.kind, .int .i64 o.id, .int .i64 o.to, .int .i64 o.at_, .string o.name, .string o.text]
/-- What the numbers and texts of an operation keep to. -/
def OkO (o : Opn) : Prop := o.name.size ≤ maxLen ∧ o.text.size ≤ maxLen ∧ (Lit.int .i64 o.kind).wf = true ∧ (Lit.int .i64 o.id).wf = true ∧ (Lit.int .i64 o.to).wf = true ∧ (Lit.int .i64 o.at_).wf = true
theorem open_op {H : Type} {P : Program} {enc : TypeId × Value → H} {w : World} {base b0 : Nat} {spare : Nat → Bool} {held : Bool} {r : Reach} {e : TypeId} {fs : Array Field} {v : Value} {d : DataW H} {p : List MemPlace} (hs : P.underlying e = some (.struct fs)) (hE : Opens enc P w base spare held e opE)
    (hv : Value.okWide P w r b0 e v) (h : DataW.Trod enc P w base spare held e v d p) : ∃ o : Opn, v = opV o ∧ OkO o := by
  obtain ⟨cs, rfl, hsz⟩ := Go.WideShapes.okWide_struct hs hv
  obtain ⟨fuel, hf⟩ := h
  obtain ⟨o, ho, hk⟩ := hE fuel _ _ hf
  refine ⟨o, ?_, hk⟩
  have hc : cs.toList = [.int .i64 o.kind, .int .i64 o.id, .int .i64 o.to, .int .i64 o.at_, .string o.name, .string o.text] := by simpa [Value.cells] using ho
  show Value.agg cs = _
  rw [← Array.toArray_toList (xs := cs), hc]
theorem op_at {B : Nat} {w : World} {A : Option Addr} {n c : Nat} {l : List Opn} (h : RdO B w (.slice A n c) l) {i : Nat} (hi : i < l.length) :
    ∃ b o : Nat, A = some ⟨b, o, none⟩ ∧ b < B ∧ w.cell? ⟨b, o + i * 6, none⟩ = some (.int .i64 l[i].kind) ∧ w.cell? ⟨b, o + i * 6 + 1, none⟩ = some (.int .i64 l[i].id) ∧ w.cell? ⟨b, o + i * 6 + 2, none⟩ = some (.int .i64 l[i].to) ∧ w.cell? ⟨b, o + i * 6 + 3, none⟩ = some (.int .i64 l[i].at_) ∧
      w.cell? ⟨b, o + i * 6 + 4, none⟩ = some (.string l[i].name) ∧ w.cell? ⟨b, o + i * 6 + 5, none⟩ = some (.string l[i].text) ∧ l[i].name.size ≤ maxLen ∧ l[i].text.size ≤ maxLen ∧ (Lit.int .i64 l[i].id).wf = true ∧ (Lit.int .i64 l[i].to).wf = true := by
  obtain ⟨b, o, cs, e, hb, hlen, hc, hcs, m1, m2, m3, m4, m5, m6⟩ := h.at_ hi
  subst hcs
  exact ⟨b, o, e, hb, hc 0 _ rfl, hc 1 _ rfl, hc 2 _ rfl, hc 3 _ rfl, hc 4 _ rfl, hc 5 _ rfl, m1, m2, m4, m5⟩
end Go.Proofs.YthdenkkllpkplaaGreat.Shapes
namespace Go.Proofs.YthdenkkllpkplaaGreat.Grown
open Go Go.RowKit Go.Proofs.YthdenkkllpkplaaGreat.Seq Go.Proofs.YthdenkkllpkplaaGreat.WS Go.Proofs.YthdenkkllpkplaaGreat.FS Go.Proofs.YthdenkkllpkplaaGreat.Mem Go.Proofs.YthdenkkllpkplaaGreat.Rd Go.Proofs.YthdenkkllpkplaaGreat.Shapes Go.Proofs.YthdenkkllpkplaaGreat.Word Go.Proofs.YthdenkkllpkplaaGreat.FFam
set_option linter.unusedVariables false
set_option linter.unusedSimpArgs false
def opB (o : Opn) : Bool := decide (o.name.size ≤ 300) && decide (o.text.size ≤ 300)
def bndO (l : List Opn) : Bool := l.all opB && decide (l.length ≤ 150)
theorem bndO_no {l : List Opn} {k : Nat} (hk : k < l.length) (h : opB l[k] = false) : bndO l = false := by
  unfold bndO
  rw [Bool.and_eq_false_iff]
  left
  rw [List.all_eq_false]
  exact ⟨l[k], List.getElem_mem _, by rw [h]; simp⟩
noncomputable def growF (l : List Opn) : Fo := l.foldl oneF newFo
theorem grow_may (l : List Opn) : mayB (growF l) = true := by
  unfold growF
  have : ∀ (l : List Opn) (f : Fo), mayB f = true → mayB (l.foldl oneF f) = true := by
    intro l
    induction l with
    | nil => exact fun f h => h
    | cons o l ih => exact fun f h => ih _ (one_may h o)
  exact this l _ new_may
theorem grow_snoc (l : List Opn) (o : Opn) : growF (l ++ [o]) = oneF (growF l) o := by unfold growF; rw [List.foldl_append]; rfl
end Go.Proofs.YthdenkkllpkplaaGreat.Grown
end
section
/- treillagelaw10.bounded. -/
namespace Go.Proofs.YthdenkkllpkplaaGreat.Fi
open Go Go.RowKit Go.Proofs.YthdenkkllpkplaaGreat.Seq Go.Proofs.YthdenkkllpkplaaGreat.WS Go.Proofs.YthdenkkllpkplaaGreat.FS Go.Proofs.YthdenkkllpkplaaGreat.Mem Go.Proofs.YthdenkkllpkplaaGreat.Rd Go.Proofs.YthdenkkllpkplaaGreat.Shapes Go.Proofs.YthdenkkllpkplaaGreat.Word Go.Proofs.YthdenkkllpkplaaGreat.FFam Go.Proofs.YthdenkkllpkplaaGreat.Grown
set_option linter.unusedVariables false
set_option linter.unusedSimpArgs false
set_option maxRecDepth 100000 in
set_option maxHeartbeats 4000000 in
theorem bounded_calls (w : World) (v : Value) (l : List Opn) (h : RdO w.heap.size w v l) : Calls Tryz.prog 32 #[v] w fun e w' => e = .returned (.bool (bndO l)) ∧ w = w' := by
  obtain ⟨A0, c0, rfl, hl0, hc0, h'⟩ := h.form
  simp only [maxLen] at hc0
  have Hh := Lib.hid h'
  have hno := fun k (hk : k < l.length) hx => bndO_no (l := l) hk hx
  have Hno := Lib.hid hno
  clear h h' hno
  go_enter Tryz.func32, Tryz.ntmps32
  go_wp2_with fail
  go_loop [3] (fun i => ∃ k : Nat, k ≤ l.length ∧ i = .int .i64 k ∧ Hid ((l.take k).all opB = true)) (fun i => l.length - (intOf i).toNat)
  case atStart => exact ⟨0, Nat.zero_le _, rfl, Lib.hid rfl⟩
  case round =>
    obtain ⟨k, hk, rfl, hall⟩ := hrel
    by_cases hlt : k < l.length
    · obtain ⟨b, o, rfl, hbl, _, _, _, _, g4, g5, m1, m2, _, _⟩ := op_at Hh.out hlt
      have hno := Hno.out k hlt
      have htk : l.take (k + 1) = l.take k ++ [l[k]] := List.take_succ_eq_append_getElem hlt
      have hallk : opB l[k] = true → (l.take (k + 1)).all opB = true := fun hx => by rw [htk, List.all_append, hall.out]; simp [hx]
      have Hallk := Lib.hid hallk; have Hn := Lib.hid hno
      clear hallk hno htk hall m1 m2
      generalize l[k] = x at *
      by_cases h1 : x.name.size ≤ 300
      · by_cases h2 : x.text.size ≤ 300
        · have hx : opB x = true := by unfold opB; rw [decide_eq_true h1, decide_eq_true h2]; rfl
          have Hx := Lib.hid hx
          clear hx
          go_wp2_with fail
          go_round
          case rel => exact ⟨k + 1, by omega, by go_num, Lib.hid (Hallk.out Hx.out)⟩
          case measure => simp [intOf]; omega
        · have hx : opB x = false := by unfold opB; rw [decide_eq_false h2]; simp
          have Hx := Lib.hid hx
          clear hx
          go_wp2_with fail
          go_ret
          exact ⟨by rw [Hn.out Hx.out]; rfl, rfl⟩
      · have hx : opB x = false := by unfold opB; rw [decide_eq_false h1]; rfl
        have Hx := Lib.hid hx
        clear hx
        go_wp2_with fail
        go_ret
        exact ⟨by rw [Hn.out Hx.out]; rfl, rfl⟩
    · have hr : bndO l = decide ((l.length : Int) ≤ 150) := by
        unfold bndO
        have := hall.out
        rw [List.take_of_length_le (by omega)] at this
        rw [this, Bool.true_and]
        rw [Bool.eq_iff_iff]; simp; try omega
      have Hr := Lib.hid hr
      clear hr hall
      go_wp2_with fail
      go_ret
      exact ⟨by rw [Hr.out]; rfl, rfl⟩
end Go.Proofs.YthdenkkllpkplaaGreat.Fi
end
section
/- Selectors: plain words, and how they lie in memory. -/
namespace Go.Proofs.YthdenkkllpkplaaGreat.FS
open Go.Proofs.YthdenkkllpkplaaGreat.WS
set_option linter.unusedVariables false
structure Tst where
  kind : Int := 0
  name : ByteArray := ⟨#[]⟩
  value : ByteArray := ⟨#[]⟩
deriving DecidableEq, Inhabited
structure Stp where
  c : List Tst := []
  child : Bool := false
deriving DecidableEq, Inhabited
abbrev Sro := List Stp
abbrev Sel := List Sro
/-- The value of an attribute. -/
def valA (l : List Av) (s : ByteArray) : Option ByteArray := (l.find? (fun a => decide (a.name = s))).map (·.value)
abbrev idS : ByteArray := ⟨#[105, 100]⟩
abbrev classS : ByteArray := ⟨#[99, 108, 97, 115, 115]⟩
/-- Is a test, of a node? -/
def soB (n : Nd) (t : Tst) : Bool :=
  if t.kind = 1 then decide (n.name.data.map foldB = t.name.data.map foldB)
  else if t.kind = 2 then decide (valA n.attrs idS = some t.name)
  else if t.kind = 3 then match valA n.attrs classS with | some v => (words v.data.toList).contains t.name.data.toList | none => false
  else if t.kind = 4 then (valA n.attrs t.name).isSome
  else if t.kind = 5 then decide (valA n.attrs t.name = some t.value)
  else false
def fitsC (n : Nd) (c : List Tst) : Bool := decide (n.kind = 1) && c.all (soB n)
/-- The nodes on the way from node i (n steps of up) upwards, i first. -/
def upL (f : Fo) : Nat → Int → List Int
  | 0, _ => []
  | n + 1, i => i :: upL f n (at_ f i).parent
/-- Along a way (the top one first): at which places a row may end, of each step. -/
def stepL (f : Fo) (x : Stp) (first : Bool) (way : List Int) (now : List Bool) : List Bool :=
  (List.range way.length).map (fun k => (if !first && x.child then decide (0 < k) && now.getD (k - 1) false else first || (now.take k).any id) && fitsC (at_ f (way.getD k 0)) x.c)
def endsL (f : Fo) (way : List Int) : Bool → List Bool → Sro → List Bool
  | _, now, [] => now
  | first, now, x :: r => endsL f way false (stepL f x first way now) r
/-- Of a row: may it end at the last one of the way? -/
def endsB (f : Fo) (way : List Int) (r : Sro) : Bool := decide (r ≠ []) && (endsL f way true (List.replicate way.length false) r).getD (way.length - 1) false
end Go.Proofs.YthdenkkllpkplaaGreat.FS
namespace Go.Proofs.YthdenkkllpkplaaGreat.Shapes
open Go Go.RowKit Go.Deep Go.Proofs.YthdenkkllpkplaaGreat.Rd
open Go.Proofs.YthdenkkllpkplaaGreat.FS (Av Nd Fo Tst Stp Sro Sel)
set_option linter.unusedVariables false
def testE : Elem Tst := fun _ _ cs t => cs = [.int .i64 t.kind, .string t.name, .string t.value] ∧ t.name.size ≤ maxLen ∧ t.value.size ≤ maxLen ∧ (Lit.int .i64 t.kind).wf = true
theorem testE_keeps : testE.Keeps := fun _ _ _ _ _ _ h _ _ => h
def stepE : Elem Stp := fun B w cs s => ∃ v, cs = [v, .bool s.child] ∧ RdL testE 3 B w v s.c
theorem stepE_keeps : stepE.Keeps := fun B B' w w' cs n ⟨v, h1, h2⟩ hb hB => ⟨v, h1, h2.keep testE_keeps hb hB⟩
def rowE : Elem Sro := fun B w cs r => ∃ v, cs = [v] ∧ RdL stepE 2 B w v r
theorem rowE_keeps : rowE.Keeps := fun B B' w w' cs n ⟨v, h1, h2⟩ hb hB => ⟨v, h1, h2.keep stepE_keeps hb hB⟩
/-- v reads as the selector l. -/
abbrev RdSel := RdL rowE 1
theorem test_at {B : Nat} {w : World} {A : Option Addr} {n c : Nat} {l : List Tst} (h : RdL testE 3 B w (.slice A n c) l) {i : Nat} (hi : i < l.length) :
    ∃ b o : Nat, A = some ⟨b, o, none⟩ ∧ b < B ∧ w.cell? ⟨b, o + i * 3, none⟩ = some (.int .i64 l[i].kind) ∧ w.cell? ⟨b, o + i * 3 + 1, none⟩ = some (.string l[i].name) ∧ w.cell? ⟨b, o + i * 3 + 2, none⟩ = some (.string l[i].value) ∧ l[i].name.size ≤ maxLen ∧ l[i].value.size ≤ maxLen ∧ (Lit.int .i64 l[i].kind).wf = true := by
  obtain ⟨b, o, cs, e, hlt, hl, hc, rfl, hm, hm2, hm3⟩ := h.at_ hi
  exact ⟨b, o, e, hlt, hc 0 _ rfl, hc 1 _ rfl, hc 2 _ rfl, hm, hm2, hm3⟩
theorem step_at {B : Nat} {w : World} {A : Option Addr} {n c : Nat} {l : Sro} (h : RdL stepE 2 B w (.slice A n c) l) {i : Nat} (hi : i < l.length) :
    ∃ (b o : Nat) (At : Option Addr) (ct : Nat), A = some ⟨b, o, none⟩ ∧ b < B ∧ w.cell? ⟨b, o + i * 2, none⟩ = some (.slice At l[i].c.length ct) ∧ w.cell? ⟨b, o + i * 2 + 1, none⟩ = some (.bool l[i].child) ∧ RdL testE 3 B w (.slice At l[i].c.length ct) l[i].c ∧ l[i].c.length ≤ ct ∧ ct ≤ maxLen := by
  obtain ⟨b, o, cs, e, hlt, hl, hc, v, rfl, hr⟩ := h.at_ hi
  obtain ⟨At, ct, rfl, p1, p2, hr'⟩ := hr.form
  exact ⟨b, o, At, ct, e, hlt, hc 0 _ rfl, hc 1 _ rfl, hr', p1, p2⟩
theorem row_at {B : Nat} {w : World} {A : Option Addr} {n c : Nat} {l : Sel} (h : RdSel B w (.slice A n c) l) {i : Nat} (hi : i < l.length) :
    ∃ (b o : Nat) (At : Option Addr) (ct : Nat), A = some ⟨b, o, none⟩ ∧ b < B ∧ w.cell? ⟨b, o + i, none⟩ = some (.slice At l[i].length ct) ∧ RdL stepE 2 B w (.slice At l[i].length ct) l[i] ∧ l[i].length ≤ ct ∧ ct ≤ maxLen := by
  obtain ⟨b, o, cs, e, hlt, hl, hc, v, rfl, hr⟩ := h.at_ hi
  obtain ⟨At, ct, rfl, p1, p2, hr'⟩ := hr.form
  have h0 := hc 0 _ rfl
  rw [Nat.mul_one, Nat.add_zero] at h0
  exact ⟨b, o, At, ct, e, hlt, h0, hr', p1, p2⟩
end Go.Proofs.YthdenkkllpkplaaGreat.Shapes
end
section
/- slices.IndexFunc, ContainsFunc over attributes, tests, rows, numbers. -/
namespace Go.Proofs.YthdenkkllpkplaaGreat.Fn
open Go Go.RowKit Go.Proofs.YthdenkkllpkplaaGreat.Seq Go.Proofs.YthdenkkllpkplaaGreat.WS Go.Proofs.YthdenkkllpkplaaGreat.FS Go.Proofs.YthdenkkllpkplaaGreat.Mem Go.Proofs.YthdenkkllpkplaaGreat.Rd Go.Proofs.YthdenkkllpkplaaGreat.Shapes Go.Proofs.YthdenkkllpkplaaGreat.Word Go.Proofs.YthdenkkllpkplaaGreat.FFam Go.Proofs.YthdenkkllpkplaaGreat.Work
set_option linter.unusedVariables false
set_option linter.unusedSimpArgs false
theorem any_iff {α : Type} {l : List α} {p : α → Bool} : decide (0 ≤ idxP l p) = l.any p := by
  cases h : l.any p with
  | true =>
    rw [List.any_eq_true] at h
    by_cases h0 : 0 ≤ idxP l p
    · exact decide_eq_true h0
    · exfalso
      unfold idxP at h0
      cases hf : l.findIdx? p with
      | none =>
        rw [List.findIdx?_eq_none_iff] at hf
        obtain ⟨a, ha, hp⟩ := h
        rw [hf a ha] at hp
        cases hp
      | some j => rw [hf] at h0; exact absurd (Int.natCast_nonneg j) h0
  | false =>
    apply decide_eq_false
    rw [List.any_eq_false] at h
    unfold idxP
    rw [List.findIdx?_eq_none_iff.2 (fun a ha => by simpa using h a ha)]
    show ¬ (0 : Int) ≤ -1
    decide
theorem IndexAttr_calls (w : World) (v : Value) (l : List Av) (h : RdL attrE 2 w.heap.size w v l) (p : Av → Bool) (bx : Value)
    (hp : ∀ w', Below w.heap.size w w' → ∀ i (hi : i < l.length), Calls Tryz.prog 181 #[.agg #[.string l[i].name, .string l[i].value], bx] w' fun e w'' => e = .returned (.bool (p l[i])) ∧ Below w'.heap.size w' w'') :
    Calls Tryz.prog 164 #[v, .func (.func 181) #[] #[bx]] w fun e w' => e = .returned (.int .i64 (idxP l p)) ∧ Below w.heap.size w w' := by
  have HR := Lib.hid (fun w' hb => h.below attrE_keeps (w' := w') hb (Nat.le_refl _))
  obtain ⟨A0, c0, rfl, hl0, hc0, _⟩ := h.form
  simp only [maxLen] at hc0
  have Hp := Lib.hid hp
  clear h hp
  go_enter Tryz.func164, Tryz.ntmps164
  go_wp2_with fail
  go_loopw [8] (fun i wr => ∃ k : Nat, k ≤ l.length ∧ i = .int .i64 k ∧ Below w.heap.size w wr ∧ Hid (∀ j (hj : j < l.length), j < k → p l[j] = false)) (fun i _ => l.length - (intOf i).toNat)
  case atStart => exact ⟨0, Nat.zero_le _, rfl, Below.refl _ _, Lib.hid (fun j _ h => absurd h (Nat.not_lt_zero _))⟩
  case round =>
    obtain ⟨k, hk, rfl, hb, hn⟩ := hrel
    by_cases hlt : k < l.length
    · obtain ⟨b, o, rfl, hbl, g0, g1, m0, m1⟩ := FAttr.attr_at (HR.out _ hb) hlt
      have hbs := hb.size
      have hc := Hp.out wr hb k hlt
      have Hb := Lib.hid hb
      cases hx : p l[k] with
      | true =>
        rw [hx] at hc
        have hr := idxP_hit hlt hx hn.out
        have Hr := Lib.hid hr; have Hc := Lib.hid hc
        clear hr hx hc hb m0 m1
        generalize l[k] = a at *
        go_wp2_with (go_at_call 181; (with_reducible refine (Hc.out).mono ?_); rintro e w5 ⟨rfl, hb5⟩; have Hb5 := Lib.hid hb5; clear hb5)
        go_ret
        exact ⟨ret_i Hr.out.symm, bthen Hb.out Hb5.out⟩
      | false =>
        rw [hx] at hc
        have hn2 : ∀ j (hj : j < l.length), j < k + 1 → p l[j] = false := fun j hj hjk => by
          by_cases e : j = k
          · subst e; exact hx
          · exact hn.out j hj (by omega)
        have Hn2 := Lib.hid hn2; have Hc := Lib.hid hc
        clear hn2 hx hc hb m0 m1
        generalize l[k] = a at *
        go_wp2_with (go_at_call 181; (with_reducible refine (Hc.out).mono ?_); rintro e w5 ⟨rfl, hb5⟩; have Hb5 := Lib.hid hb5; clear hb5)
        go_roundw
        case rel => exact ⟨k + 1, by omega, by go_num, bthen Hb.out Hb5.out, Hn2⟩
        case measure => simp [intOf]; omega
    · have hr := idxP_none (l := l) (p := p) (fun j hj => hn.out j hj (by omega))
      have Hr := Lib.hid hr; have Hb := Lib.hid hb
      clear hr hb
      go_wp2_with fail
      go_ret
      exact ⟨ret_i Hr.out.symm, Hb.out⟩
theorem IndexTest_calls (w : World) (v : Value) (l : List Tst) (h : RdL testE 3 w.heap.size w v l) (p : Tst → Bool) (bx : Value)
    (hp : ∀ w', Below w.heap.size w w' → ∀ i (hi : i < l.length), (l[i].name.size ≤ maxLen ∧ l[i].value.size ≤ maxLen ∧ (Lit.int .i64 l[i].kind).wf = true) → Calls Tryz.prog 85 #[.agg #[.int .i64 l[i].kind, .string l[i].name, .string l[i].value], bx] w' fun e w'' => e = .returned (.bool (p l[i])) ∧ Below w'.heap.size w' w'') :
    Calls Tryz.prog 146 #[v, .func (.func 85) #[] #[bx]] w fun e w' => e = .returned (.int .i64 (idxP l p)) ∧ Below w.heap.size w w' := by
  have HR := Lib.hid (fun w' hb => h.below testE_keeps (w' := w') hb (Nat.le_refl _))
  obtain ⟨A0, c0, rfl, hl0, hc0, _⟩ := h.form
  simp only [maxLen] at hc0
  have Hp := Lib.hid hp
  clear h hp
  go_enter Tryz.func146, Tryz.ntmps146
  go_wp2_with fail
  go_loopw [8] (fun i wr => ∃ k : Nat, k ≤ l.length ∧ i = .int .i64 k ∧ Below w.heap.size w wr ∧ Hid (∀ j (hj : j < l.length), j < k → p l[j] = false)) (fun i _ => l.length - (intOf i).toNat)
  case atStart => exact ⟨0, Nat.zero_le _, rfl, Below.refl _ _, Lib.hid (fun j _ h => absurd h (Nat.not_lt_zero _))⟩
  case round =>
    obtain ⟨k, hk, rfl, hb, hn⟩ := hrel
    by_cases hlt : k < l.length
    · obtain ⟨b, o, rfl, hbl, g0, g1, g2, m0, m1, m2⟩ := test_at (HR.out _ hb) hlt
      have hbs := hb.size
      have hc := Hp.out wr hb k hlt ⟨m0, m1, m2⟩
      have Hb := Lib.hid hb
      cases hx : p l[k] with
      | true =>
        rw [hx] at hc
        have hr := idxP_hit hlt hx hn.out
        have Hr := Lib.hid hr; have Hc := Lib.hid hc
        clear hr hx hc hb m0 m1 m2
        generalize l[k] = a at *
        go_wp2_with (go_at_call 85; (with_reducible refine (Hc.out).mono ?_); rintro e w5 ⟨rfl, hb5⟩; have Hb5 := Lib.hid hb5; clear hb5)
        go_ret
        exact ⟨ret_i Hr.out.symm, bthen Hb.out Hb5.out⟩
      | false =>
        rw [hx] at hc
        have hn2 : ∀ j (hj : j < l.length), j < k + 1 → p l[j] = false := fun j hj hjk => by
          by_cases e : j = k
          · subst e; exact hx
          · exact hn.out j hj (by omega)
        have Hn2 := Lib.hid hn2; have Hc := Lib.hid hc
        clear hn2 hx hc hb m0 m1 m2
        generalize l[k] = a at *
        go_wp2_with (go_at_call 85; (with_reducible refine (Hc.out).mono ?_); rintro e w5 ⟨rfl, hb5⟩; have Hb5 := Lib.hid hb5; clear hb5)
        go_roundw
        case rel => exact ⟨k + 1, by omega, by go_num, bthen Hb.out Hb5.out, Hn2⟩
        case measure => simp [intOf]; omega
    · have hr := idxP_none (l := l) (p := p) (fun j hj => hn.out j hj (by omega))
      have Hr := Lib.hid hr; have Hb := Lib.hid hb
      clear hr hb
      go_wp2_with fail
      go_ret
      exact ⟨ret_i Hr.out.symm, Hb.out⟩
theorem ContainsTest_calls (w : World) (v : Value) (l : List Tst) (h : RdL testE 3 w.heap.size w v l) (p : Tst → Bool) (bx : Value)
    (hp : ∀ w', Below w.heap.size w w' → ∀ i (hi : i < l.length), (l[i].name.size ≤ maxLen ∧ l[i].value.size ≤ maxLen ∧ (Lit.int .i64 l[i].kind).wf = true) → Calls Tryz.prog 85 #[.agg #[.int .i64 l[i].kind, .string l[i].name, .string l[i].value], bx] w' fun e w'' => e = .returned (.bool (p l[i])) ∧ Below w'.heap.size w' w'') :
    Calls Tryz.prog 84 #[v, .func (.func 85) #[] #[bx]] w fun e w' => e = .returned (.bool (l.any p)) ∧ Below w.heap.size w w' := by
  have hi := IndexTest_calls w v l h p bx hp
  have ha := any_iff (l := l) (p := p)
  have Hi := Lib.hid hi; have Ha := Lib.hid ha
  obtain ⟨A0, c0, rfl, hl0, hc0, _⟩ := h.form
  clear hi h hp ha
  generalize l.any p = y at *
  generalize idxP l p = z at *
  go_enter Tryz.func84, Tryz.ntmps84
  go_wp2_with (go_at_call 146; (with_reducible refine (Hi.out).mono ?_); rintro e w5 ⟨rfl, hb5⟩; have Hb5 := Lib.hid hb5; clear hb5)
  go_ret
  exact ⟨by rw [← Ha.out]; rfl, Hb5.out⟩
theorem IndexRow_calls (w : World) (v : Value) (l : List Sro) (h : RdL rowE 1 w.heap.size w v l) (p : Sro → Bool) (bx by_ : Value)
    (hp : ∀ w', Below w.heap.size w w' → ∀ i (hi : i < l.length), ∀ (At : Option Addr) (ct : Nat), (RdL stepE 2 w'.heap.size w' (.slice At l[i].length ct) l[i]) → Calls Tryz.prog 81 #[.slice At l[i].length ct, bx, by_] w' fun e w'' => e = .returned (.bool (p l[i])) ∧ Below w'.heap.size w' w'') :
    Calls Tryz.prog 144 #[v, .func (.func 81) #[] #[bx, by_]] w fun e w' => e = .returned (.int .i64 (idxP l p)) ∧ Below w.heap.size w w' := by
  have HR := Lib.hid (fun w' hb => h.below rowE_keeps (w' := w') hb (Nat.le_refl _))
  obtain ⟨A0, c0, rfl, hl0, hc0, _⟩ := h.form
  simp only [maxLen] at hc0
  have Hp := Lib.hid hp
  clear h hp
  go_enter Tryz.func144, Tryz.ntmps144
  go_wp2_with fail
  go_loopw [8] (fun i wr => ∃ k : Nat, k ≤ l.length ∧ i = .int .i64 k ∧ Below w.heap.size w wr ∧ Hid (∀ j (hj : j < l.length), j < k → p l[j] = false)) (fun i _ => l.length - (intOf i).toNat)
  case atStart => exact ⟨0, Nat.zero_le _, rfl, Below.refl _ _, Lib.hid (fun j _ h => absurd h (Nat.not_lt_zero _))⟩
  case round =>
    obtain ⟨k, hk, rfl, hb, hn⟩ := hrel
    by_cases hlt : k < l.length
    · obtain ⟨b, o, At, ct, rfl, hbl, g0, r0, m0, m1⟩ := row_at (HR.out _ hb) hlt
      have hbs := hb.size
      have hc := Hp.out wr hb k hlt _ _ (r0.mono stepE_keeps hbs)
      have Hb := Lib.hid hb
      cases hx : p l[k] with
      | true =>
        rw [hx] at hc
        have hr := idxP_hit hlt hx hn.out
        have Hr := Lib.hid hr; have Hc := Lib.hid hc
        clear hr hx hc hb r0 m0 m1
        generalize l[k] = a at *
        go_wp2_with (go_at_call 81; (with_reducible refine (Hc.out).mono ?_); rintro e w5 ⟨rfl, hb5⟩; have Hb5 := Lib.hid hb5; clear hb5)
        go_ret
        exact ⟨ret_i Hr.out.symm, bthen Hb.out Hb5.out⟩
      | false =>
        rw [hx] at hc
        have hn2 : ∀ j (hj : j < l.length), j < k + 1 → p l[j] = false := fun j hj hjk => by
          by_cases e : j = k
          · subst e; exact hx
          · exact hn.out j hj (by omega)
        have Hn2 := Lib.hid hn2; have Hc := Lib.hid hc
        clear hn2 hx hc hb r0 m0 m1
        generalize l[k] = a at *
        go_wp2_with (go_at_call 81; (with_reducible refine (Hc.out).mono ?_); rintro e w5 ⟨rfl, hb5⟩; have Hb5 := Lib.hid hb5; clear hb5)
        go_roundw
        case rel => exact ⟨k + 1, by omega, by go_num, bthen Hb.out Hb5.out, Hn2⟩
        case measure => simp [intOf]; omega
    · have hr := idxP_none (l := l) (p := p) (fun j hj => hn.out j hj (by omega))
      have Hr := Lib.hid hr; have Hb := Lib.hid hb
      clear hr hb
      go_wp2_with fail
      go_ret
      exact ⟨ret_i Hr.out.symm, Hb.out⟩
theorem ContainsRow_calls (w : World) (v : Value) (l : List Sro) (h : RdL rowE 1 w.heap.size w v l) (p : Sro → Bool) (bx by_ : Value)
    (hp : ∀ w', Below w.heap.size w w' → ∀ i (hi : i < l.length), ∀ (At : Option Addr) (ct : Nat), (RdL stepE 2 w'.heap.size w' (.slice At l[i].length ct) l[i]) → Calls Tryz.prog 81 #[.slice At l[i].length ct, bx, by_] w' fun e w'' => e = .returned (.bool (p l[i])) ∧ Below w'.heap.size w' w'') :
    Calls Tryz.prog 80 #[v, .func (.func 81) #[] #[bx, by_]] w fun e w' => e = .returned (.bool (l.any p)) ∧ Below w.heap.size w w' := by
  have hi := IndexRow_calls w v l h p bx by_ hp
  have ha := any_iff (l := l) (p := p)
  have Hi := Lib.hid hi; have Ha := Lib.hid ha
  obtain ⟨A0, c0, rfl, hl0, hc0, _⟩ := h.form
  clear hi h hp ha
  generalize l.any p = y at *
  generalize idxP l p = z at *
  go_enter Tryz.func80, Tryz.ntmps80
  go_wp2_with (go_at_call 144; (with_reducible refine (Hi.out).mono ?_); rintro e w5 ⟨rfl, hb5⟩; have Hb5 := Lib.hid hb5; clear hb5)
  go_ret
  exact ⟨by rw [← Ha.out]; rfl, Hb5.out⟩
theorem IndexInt_calls (w : World) (v : Value) (l : List Int) (h : RdL (intE .i64) 1 w.heap.size w v l) (p : Int → Bool) (bx by_ : Value)
    (hp : ∀ w', Below w.heap.size w w' → ∀ i (hi : i < l.length), ((Lit.int .i64 l[i]).wf = true) → Calls Tryz.prog 77 #[.int .i64 l[i], bx, by_] w' fun e w'' => e = .returned (.bool (p l[i])) ∧ Below w'.heap.size w' w'') :
    Calls Tryz.prog 76 #[v, .func (.func 77) #[] #[bx, by_]] w fun e w' => e = .returned (.int .i64 (idxP l p)) ∧ Below w.heap.size w w' := by
  have HR := Lib.hid (fun w' hb => h.below (intE_keeps _) (w' := w') hb (Nat.le_refl _))
  obtain ⟨A0, c0, rfl, hl0, hc0, _⟩ := h.form
  simp only [maxLen] at hc0
  have Hp := Lib.hid hp
  clear h hp
  go_enter Tryz.func76, Tryz.ntmps76
  go_wp2_with fail
  go_loopw [8] (fun i wr => ∃ k : Nat, k ≤ l.length ∧ i = .int .i64 k ∧ Below w.heap.size w wr ∧ Hid (∀ j (hj : j < l.length), j < k → p l[j] = false)) (fun i _ => l.length - (intOf i).toNat)
  case atStart => exact ⟨0, Nat.zero_le _, rfl, Below.refl _ _, Lib.hid (fun j _ h => absurd h (Nat.not_lt_zero _))⟩
  case round =>
    obtain ⟨k, hk, rfl, hb, hn⟩ := hrel
    by_cases hlt : k < l.length
    · obtain ⟨b, o, rfl, hbl, g0, m0⟩ := intE_at (HR.out _ hb) hlt
      have hbs := hb.size
      have hc := Hp.out wr hb k hlt m0
      have Hb := Lib.hid hb
      cases hx : p l[k] with
      | true =>
        rw [hx] at hc
        have hr := idxP_hit hlt hx hn.out
        have Hr := Lib.hid hr; have Hc := Lib.hid hc
        clear hr hx hc hb m0
        generalize l[k] = a at *
        go_wp2_with (go_at_call 77; (with_reducible refine (Hc.out).mono ?_); rintro e w5 ⟨rfl, hb5⟩; have Hb5 := Lib.hid hb5; clear hb5)
        go_ret
        exact ⟨ret_i Hr.out.symm, bthen Hb.out Hb5.out⟩
      | false =>
        rw [hx] at hc
        have hn2 : ∀ j (hj : j < l.length), j < k + 1 → p l[j] = false := fun j hj hjk => by
          by_cases e : j = k
          · subst e; exact hx
          · exact hn.out j hj (by omega)
        have Hn2 := Lib.hid hn2; have Hc := Lib.hid hc
        clear hn2 hx hc hb m0
        generalize l[k] = a at *
        go_wp2_with (go_at_call 77; (with_reducible refine (Hc.out).mono ?_); rintro e w5 ⟨rfl, hb5⟩; have Hb5 := Lib.hid hb5; clear hb5)
        go_roundw
        case rel => exact ⟨k + 1, by omega, by go_num, bthen Hb.out Hb5.out, Hn2⟩
        case measure => simp [intOf]; omega
    · have hr := idxP_none (l := l) (p := p) (fun j hj => hn.out j hj (by omega))
      have Hr := Lib.hid hr; have Hb := Lib.hid hb
      clear hr hb
      go_wp2_with fail
      go_ret
      exact ⟨ret_i Hr.out.symm, Hb.out⟩
end Go.Proofs.YthdenkkllpkplaaGreat.Fn
end
