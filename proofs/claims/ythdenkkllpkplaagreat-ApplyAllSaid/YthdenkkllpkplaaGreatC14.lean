/- Joined by a program: AOneB, OpsR, APlain, AllW, WkP, FDemo, WkDemo, ADemo. -/
import Derived.Test.YthdenkkllpkplaaGreatC13
import Derived.Test.YthdenkkllpkplaaGreatC09
import Derived.Test.YthdenkkllpkplaaGreatC02
import Derived.Test.YthdenkkllpkplaaGreatC01
section
/- apply.One: one operation. -/
namespace Go.Proofs.YthdenkkllpkplaaGreat.Doings
open Go Go.RowKit Go.Proofs.YthdenkkllpkplaaGreat.Seq Go.Proofs.YthdenkkllpkplaaGreat.WS Go.Proofs.YthdenkkllpkplaaGreat.FS Go.Proofs.YthdenkkllpkplaaGreat.Mem Go.Proofs.YthdenkkllpkplaaGreat.Rd Go.Proofs.YthdenkkllpkplaaGreat.Shapes Go.Proofs.YthdenkkllpkplaaGreat.OwnF Go.Proofs.YthdenkkllpkplaaGreat.Work
set_option linter.unusedVariables false
set_option linter.unusedSimpArgs false

theorem pl_clone_lo {L : Nat} {ops : Array Oper} {rest : List Oper} {o : Oper} {a : Act} {Q : Exit → Act → World → Prop} (W : World) (hgd : o.guard = none) (s x : Operand)
    (ho : o.op = .call { callee := .builtin .append, args := #[s, x], argTypes := #[28, 28] }) (A : Option Addr) (c : Nat) (f : Fo) (hs : a.eval s = .slice (some ⟨W.heap.size, 0, none⟩) 0 0) (hx : a.eval x = .slice A f.length c)
    (hf : LoF L W (.slice A f.length c) f) (h0 : 0 < f.length) (h1 : f.length ≤ 1000)
    (h : ∀ g cap w1, OwnX (fun b => L ≤ b) 55 W.heap.size w1 (.slice (some ⟨g, 0, none⟩) f.length cap) f → Below W.heap.size W w1 → W.heap.size ≤ g → g < w1.heap.size → wpList Tryz.prog ops Q rest (a.put o.dst (.slice (some ⟨g, 0, none⟩) f.length cap)) w1) :
    wpList Tryz.prog ops Q (o :: rest) a (W.alloc (.cells #[] 55)) := by
  obtain ⟨i0, hi, hz0, hz1, hz2⟩ := info_parts LKinds.info_node
  obtain ⟨b, off, xs, rfl, hb, hl, hc, hn⟩ := lo_cells hf h0
  have hown : (W.alloc (.cells #[] 55)).ownsRow W.heap.size 55 6 (.slice (some ⟨W.heap.size, 0, none⟩) 0 0) 0 [] := World.ownsRow_made W #[] 0 (Nat.le_refl _) (by simp [maxLen]) (by simp)
  have hone : ∀ u ∈ xs, u.oneCell' = true := by
    intro u hu
    obtain ⟨j, hj, rfl⟩ := List.mem_iff_getElem.1 hu
    have h6 := hn (j / 6) (by omega)
    refine h6.one _ ?_
    rw [List.mem_iff_getElem?]
    refine ⟨j % 6, ?_⟩
    rw [List.getElem?_take, if_pos (Nat.mod_lt _ (by decide)), List.getElem?_drop, show j / 6 * 6 + j % 6 = j by omega, List.getElem?_eq_getElem hj]
  refine wpList_append_own_at (W.alloc (.cells #[] 55)) hgd s x 28 ho W.heap.size 55 i0 _ 6 96 Tryz.underlying28 hi hz0 hz1 hz2 rfl (by decide) _ 0 [] hs hown ⟨b, off, none⟩ f.length c xs hx (by omega) (fun j u hj => ?_) hone (by simp only [maxLen]; omega) (by omega) (by simp) ?_
  · rw [Addr.add_lit]
    exact cell_alloc (hc j u hj) _
  · intro v' w' ho' hg' hnil hat
    have hO := OwnX.more (X := fun b => L ≤ b) (f := []) (g := f) (v' := v') hown (fun i hi => absurd hi (by simp)) hl (fun i hi => (hn i hi).keep (w' := W.alloc (.cells #[] 55)) (fun b hb hlt => Below.heap_alloc _ _ _ hlt) (by simp) (fun b hb hlt => ⟨fun e => by injection e with e; have : W.heap.size = b := e; omega, hb⟩)) (by simpa using ho') hg' (by
      rcases hat with e | e
      · exact .inl e
      · exact .inr e)
    rw [List.nil_append] at hO
    obtain ⟨g, cap, rfl, hge, hlt, _⟩ := hO.own.form h0
    refine h g cap w' hO ?_ hge hlt
    exact ((Off.alloc (fun b => W.heap.size ≤ b) W _).trans (Off.grown hg' (fun r hr => by injection hr with hr; have : W.heap.size = r := hr; omega))).toBelow (Nat.le_refl _) (fun b hb => hb)
def CloneFPost (L : Nat) (f : Fo) (w : World) (e : Ending) (w' : World) : Prop := ∃ g c, e = .returned (.slice (some ⟨g, 0, none⟩) f.length c) ∧ OwnX (fun b => L ≤ b) 55 w.heap.size w' (.slice (some ⟨g, 0, none⟩) f.length c) f ∧ Below w.heap.size w w' ∧ f.length ≤ c ∧ c ≤ maxLen
set_option maxRecDepth 100000 in
set_option maxHeartbeats 2000000 in
theorem cloneF_calls (L : Nat) (w : World) (v : Value) (f : Fo) (h : LoF L w v f) (h0 : 0 < f.length) (hl : f.length ≤ 1000) : Calls Tryz.prog 52 #[v] w (CloneFPost L f w) := by
  obtain ⟨A, c, rfl, hc, hm, hr⟩ := h.rd.form
  obtain ⟨b, off, cs, rfl, _⟩ := hr.at_ h0
  have q22 : ∀ (w : World) (a : Option Addr) (n c n' c' : Nat), (binOp .eql 28 (.slice a n c) (.slice none n' c')).run Tryz.prog w = .ok (.bool a.isNone) w := fun w a n c n' c' => Lib.run_eql_slice_nil w _ _ a n c n' c' Tryz.underlying28
  have Hr := Lib.hid h
  clear h hr
  go_enter Tryz.func52, Tryz.ntmps52
  go_wp2_with (at_builtin; go_loud (refine pl_clone_lo (L := L) w rfl _ _ rfl _ _ f rfl rfl Hr.out h0 hl ?_; intro g7 cap7 w7 hown7 hb7 hg7 hlt7; have Hown7 := Lib.hid hown7; have Hb7 := Lib.hid hb7; clear hown7 hb7))
  go_ret
  obtain ⟨_, _, e, _, _, _, h1, h2⟩ := Hown7.out.own.form h0
  injection e with _ _ e
  subst e
  exact ⟨_, _, rfl, Hown7.out, Hb7.out, h1, h2⟩
def LoPost (L : Nat) (f : Fo) (o : Opn) (w : World) (e : Ending) (w' : World) : Prop := ∃ v', e = .returned (.tuple #[v', .int .i64 (oneE f o)]) ∧ LoF L w' v' (oneF f o) ∧ Below w.heap.size w w'
def OnePost (f : Fo) (o : Opn) (w : World) (e : Ending) (w' : World) : Prop := ∃ v', e = .returned (.tuple #[v', .int .i64 (oneE f o)]) ∧ RdF w'.heap.size w' v' (oneF f o) ∧ Below w.heap.size w w'
def DPost (N k : Nat) (w0 : World) (e : Ending) (w' : World) : Prop := e = .returned (.map (some (N + 1))) ∧ Below w0.heap.size w0 w' ∧ w'.heap[N + 1]? = some (.map ((esD N 8).map mkV).toArray 8) ∧ w'.heap[N + 1 + k]? = some (.cells (rowsD k) 176 (0, 0))
theorem one_bad {f : Fo} {o : Opn} (h : oneE f o ≠ 0) : oneF f o = f := by unfold oneF; rw [if_neg h]
set_option maxRecDepth 100000 in
set_option maxHeartbeats 8000000 in
theorem one_lo [Avoid] (w : World) (v : Value) (f : Fo) (o : Opn) (h : LoF Avoid.lo w v f) (hlo : Avoid.lo ≤ w.heap.size) (hm : mayB f = true) (hn : o.name.size ≤ maxLen) (ht : o.text.size ≤ maxLen) (hw1 : (Lit.int .i64 o.id).wf = true) (hw2 : (Lit.int .i64 o.to).wf = true) :
    Calls Tryz.prog 21 #[v, .agg #[.int .i64 o.kind, .int .i64 o.id, .int .i64 o.to, .int .i64 o.at_, .string o.name, .string o.text]] w (LoPost Avoid.lo f o w) := by
  have hlen := may_len hm
  obtain ⟨w0, hw0⟩ : ∃ w0, w.alloc (.cells #[.int .i64 o.kind, .int .i64 o.id, .int .i64 o.to, .int .i64 o.at_, .string o.name, .string o.text] 24) = w0 := ⟨_, rfl⟩
  have hrow : w0.heap[w.heap.size]? = some (.cells (OpMay.opRow o) 24 (0, 0)) := by rw [← hw0]; exact World.alloc_heap_new w _
  have hb0 : Below w.heap.size w w0 := by rw [← hw0]; exact (Below.refl _ _).alloc (Nat.le_refl _) _
  have hs0 : w0.heap.size = w.heap.size + 1 := by rw [← hw0]; simp
  have hcell := fun w' (hb : Below w0.heap.size w0 w') => OpMay.op_cells ((hb.block w.heap.size (by omega)).trans hrow)
  have hop := OpMay.opMay_calls o w0
  have hrd := fun w' (hb : Below w.heap.size w w') => h.below hb
  obtain ⟨A0, n0, rfl, hl0, hc0, _⟩ := h.rd.form
  obtain ⟨c0, c1, c2, c3, c4, c5, cf⟩ := OpMay.op_cells hrow
  have Hw0 := Lib.hid hw0; have Hb0 := Lib.hid hb0; have Hcell := Lib.hid hcell; have Hrd := Lib.hid hrd; have Hs0 := Lib.hid hs0
  unfold OpMay.OpMayPost at hop
  cases hmo : mayO o with
  | false =>
    rw [hmo] at hop
    have he : oneE f o = 1 := by unfold oneE; rw [hmo]; rfl
    have hf := one_bad (f := f) (o := o) (by rw [he]; decide)
    have He := Lib.hid he; have Hf := Lib.hid hf; have Hop := Lib.hid hop
    clear hw0 hb0 hcell hrd hop hrow h he hf hmo hs0
    go_enter Tryz.func21, Tryz.ntmps21
    go_upto_region 1 with (fail)
    rw [Hw0.out]
    go_wp2_with (go_at_call 22; ((with_reducible refine (Hop.out).mono ?_); rintro e w5 ⟨rfl, hb5⟩; have Hb5 := Lib.hid hb5; clear hb5))
    go_ret2
    exact ⟨_, by rw [He.out]; rfl, by rw [Hf.out]; exact Hrd.out _ (bthen Hb0.out Hb5.out), bthen Hb0.out Hb5.out⟩
  | true =>
    rw [hmo] at hop
    have hk := (mayO_kind hmo).1
    obtain ⟨k, hko⟩ : ∃ k : Nat, o.kind = k := ⟨o.kind.toNat, by omega⟩
    have h1k : 1 ≤ k := by omega
    have h8 : k ≤ 8 := by omega
    have hclo := fun w' (hb : Below w.heap.size w w') => cloneF_calls Avoid.lo w' _ f (Hrd.out w' hb) (by omega) (by omega)
    have Hop := Lib.hid hop; have Hclo := Lib.hid hclo; have Hko := Lib.hid hko; have Hmo := Lib.hid hmo; have Hm := Lib.hid hm
    clear hw0 hb0 hcell hrd hop hrow h hclo hko hmo hm hs0 hk
    go_enter Tryz.func21, Tryz.ntmps21
    go_upto_region 1 with (fail)
    rw [Hw0.out]
    go_upto_region 3 with (go_at_call 22; ((with_reducible refine (Hop.out).mono ?_); rintro e w5 ⟨rfl, hb5⟩; have Hb5 := Lib.hid hb5; clear hb5))
    obtain ⟨d0, d1, d2, d3, d4, d5, df⟩ := Hcell.out _ Hb5.out
    have hb5 := bthen Hb0.out Hb5.out
    have hclo5 : ∀ W, (W = w5 ∨ W = w5.drew) → Calls Tryz.prog 52 #[.slice A0 f.length n0] W (fun e w' => ∃ g c, e = .returned (.slice (some ⟨g, 0, none⟩) f.length c) ∧ OwnX (fun b => Avoid.lo ≤ b) 55 w5.heap.size w' (.slice (some ⟨g, 0, none⟩) f.length c) f ∧ Below w5.heap.size w5 w' ∧ f.length ≤ c ∧ c ≤ maxLen) := by
      rintro W (rfl | rfl)
      · exact Hclo.out _ hb5
      · exact (Hclo.out _ (hb5.trans (Below.refl _ _).drew)).mono (fun e w' ⟨g, c, h1, h2, h3, h4⟩ => ⟨g, c, h1, h2, (Below.refl _ w5).drew.trans h3, h4⟩)
    have hcell5 := fun w' (hb : Below w5.heap.size w5 w') => Hcell.out w' (bthen Hb5.out hb)
    have Hclo5 := Lib.hid hclo5; have Hcell5 := Lib.hid hcell5; have HB5 := Lib.hid hb5
    clear hclo5 hcell5 hb5 c0 c1 c2 c3 c4 c5 cf Hclo Hcell
    go_region_held3 (fun w' => w'.cell? ⟨w.heap.size, 0, none⟩ = some (.int .i64 o.kind) ∧ w'.cell? ⟨w.heap.size, 1, none⟩ = some (.int .i64 o.id) ∧ w'.cell? ⟨w.heap.size, 2, none⟩ = some (.int .i64 o.to) ∧ w'.cell? ⟨w.heap.size, 3, none⟩ = some (.int .i64 o.at_) ∧ w'.cell? ⟨w.heap.size, 4, none⟩ = some (.string o.name) ∧ w'.cell? ⟨w.heap.size, 5, none⟩ = some (.string o.text))
      (first | exact ⟨d0, d1, d2, d3, d4, d5⟩ | exact ⟨e0, e1, e2, e3, e4, e5⟩ | go_keep)
      (first | (go_at_call 52; ((first | (with_reducible refine (Hclo5.out _ (.inl rfl)).mono ?_) | (with_reducible refine (Hclo5.out _ (.inr rfl)).mono ?_)); rintro e w6 ⟨g6, n6, rfl, ho6, hb6, hc6, hc6m⟩; obtain ⟨e0, e1, e2, e3, e4, e5, ef⟩ := Hcell5.out _ hb6; have Ho6 := Lib.hid ho6; have Hb6 := Lib.hid hb6; clear ho6 hb6)))
    obtain ⟨g', n', e', hgb6, hgl6, _⟩ := Ho6.out.own.form (by omega)
    injection e' with e' _ e2
    injection e' with e'
    injection e' with e'
    subst e' e2
    obtain ⟨w7, hw7⟩ : ∃ w7, w6.alloc (.cells #[.slice (some ⟨g6, 0, none⟩) f.length n6, .int .i64 o.kind, .int .i64 o.id, .int .i64 o.to, .int .i64 o.at_, .string o.name, .string o.text] 110) = w7 := ⟨_, rfl⟩
    have hs5 := HB5.out.size
    have hs6 := Hb6.out.size
    have hb7 : Below w6.heap.size w6 w7 := by rw [← hw7]; exact (Below.refl _ _).alloc (Nat.le_refl _) _
    have hown : OwnX (fun b => Avoid.lo ≤ b) 55 w.heap.size w6 (.slice (some ⟨g6, 0, none⟩) f.length n6) f := by
      obtain ⟨xs, h1, h2⟩ := Ho6.out
      exact ⟨xs, own_base h1 hs5, h2⟩
    have hW7 : Wk w.heap.size w6.heap.size g6 n6 o f w7 := by
      refine ⟨by rw [← hw7]; exact World.alloc_heap_new w6 _, (OwnX.both (Y := fun b => b ≠ w6.heap.size) hown (fun b hb => by show b ≠ w6.heap.size; omega)).below hb7, by omega, by simp only [maxLen] at hc6m; omega, hlo⟩
    have hbw7 : Below w.heap.size w w7 := bthen (bthen HB5.out Hb6.out) hb7
    have hcell7 := fun w' (hb : Below w7.heap.size w7 w') => (Hcell5.out w' (bthen (bthen Hb6.out hb7) hb)).1
    have hdo7 : ∀ W, (W = w7 ∨ W = w7.drew) → Calls Tryz.prog 53 #[] W (DPost w7.heap.size k w7) := by
      rintro W (rfl | rfl)
      · exact (doings_calls _).mono (fun e w' ⟨he, hd⟩ => ⟨he, hd.below, hd.map, hd.rows k h1k h8⟩)
      · exact (doings_calls w7.drew).mono (fun e w' ⟨he, hd⟩ => ⟨he, (Below.refl _ w7).drew.trans hd.below, hd.map, hd.rows k h1k h8⟩)
    have hlk : ∀ N W, W.heap[N + 1]? = some (.map ((esD N 8).map mkV).toArray 8) → (Instr.lookup 115 (.map (some (N + 1))) (.int .i64 o.kind) false).run Tryz.prog W = .ok (.agg #[.slice (some ⟨N + 1 + k, 0, none⟩) (lenD k) (lenD k), fnV (doD k)]) W := fun N W hW => by
      rw [Hko.out]
      exact run_lookup Tryz.underlying115 Tryz.underlying3 hW (k : Int) (valD N k) (esD_find _ 8 k h1k h8)
    have hdoB : Calls Tryz.prog 53 #[] (w7.alloc (.cells #[.slice none 0 0, Value.nilFunc] 114)).drew (fun e w' => DPost (w7.heap.size + 1) k w7 e w' ∧ w'.heap[w7.heap.size]? = some (.cells #[.slice none 0 0, Value.nilFunc] 114 (0, 0))) := by
      refine (doings_calls _).mono (fun e w' ⟨he, hd⟩ => ?_)
      have e1 : (w7.alloc (.cells #[.slice none 0 0, Value.nilFunc] 114)).drew.heap.size = w7.heap.size + 1 := World.size_alloc _ _
      have h1 : Below w7.heap.size w7 (w7.alloc (.cells #[.slice none 0 0, Value.nilFunc] 114)).drew := ((Below.refl _ _).alloc (Nat.le_refl _) _).drew
      rw [e1] at he hd
      exact ⟨⟨he, h1.trans (hd.below.mono (Nat.le_succ _)), hd.map, hd.rows k h1k h8⟩, (hd.below.block _ (by omega)).trans (World.alloc_heap_new w7 _)⟩
    have e7 := hcell7 w7 (Below.refl _ _)
    have hwl : ¬ (w.heap.size = w7.heap.size) := by have h1 := hb7.size; have h2 := Hb5.out.size; have h3 := Hs0.out; have h4 := Hb6.out.size; omega
    have hsf := store_func
    have HW7 := Lib.hid hW7; have Hbw7 := Lib.hid hbw7; have Hcell7 := Lib.hid hcell7; have Hdo7 := Lib.hid hdo7; have HdoB := Lib.hid hdoB; have Hlk := Lib.hid hlk
    rw [hw7]
    go_upto_region 4 with (fail)
    clear hW7 hbw7 hcell7 hdo7 hdoB hlk hw7 hb7 hown Ho6 Hb6 HB5 Hcell5 Hclo5 d0 d1 d2 d3 d4 d5 df e0 e1 e2 e3 e4 e5 ef
    go_cut [7] from 9 (fun s7 wx => ∃ D b : Nat, s7 = .pointer (some ⟨D, 0, none⟩) ∧ wx.heap[D]? = some (.cells #[.slice (some ⟨b, 0, none⟩) (lenD k) (lenD k), fnV (doD k)] 114 (0, 0)) ∧ wx.heap[b]? = some (.cells (rowsD k) 176 (0, 0)) ∧ Below w7.heap.size w7 wx)
    case first =>
     go_region_held3 (fun w' => w'.cell? ⟨w.heap.size, 0, none⟩ = some (.int .i64 o.kind))
       (first | exact e7 | exact e8 | exact (World.cell?_of_block ((Below.heap_setCell _ _ _ _ (fun e => hwl (by exact e))).trans (Below.heap_setCell _ _ _ _ (fun e => hwl (by exact e))))).trans e8 | go_keep)
       (first
         | (go_at_call 53; ((first | (with_reducible refine (Hdo7.out _ (.inl rfl)).mono ?_) | (with_reducible refine (Hdo7.out _ (.inr rfl)).mono ?_)); rintro e w8 ⟨rfl, hd8⟩; have e8 := Hcell7.out _ hd8.1; have l8 := Hlk.out _ w8 hd8.2.1; have l8d := Hlk.out _ w8.drew hd8.2.1; have l8a := Hlk.out _ (w8.alloc (.cells #[.slice none 0 0, Value.nilFunc] 114)) (heap_old hd8.2.1); have l8b := Hlk.out _ (w8.alloc (.cells #[.slice none 0 0, Value.nilFunc] 114)).drew (heap_old hd8.2.1); have Hd8 := Lib.hid hd8; clear hd8))
         | (go_at_call 53; ((with_reducible refine (HdoB.out).mono ?_); rintro e w8 ⟨⟨rfl, hd8⟩, hz8⟩; have e8 := Hcell7.out _ hd8.1; have l8 := Hlk.out _ w8 hd8.2.1; have l8d := Hlk.out _ w8.drew hd8.2.1; have l8a := Hlk.out _ (w8.alloc (.cells #[.slice none 0 0, Value.nilFunc] 114)) (heap_old hd8.2.1); have l8b := Hlk.out _ (w8.alloc (.cells #[.slice none 0 0, Value.nilFunc] 114)).drew (heap_old hd8.2.1); have z8 : w8.cell? ⟨w7.heap.size, 0, none⟩ = some (.slice none 0 0) := (cell_of_row _ _ _ _ _ _ hz8).trans rfl; have z9 : w8.cell? ⟨w7.heap.size, 1, none⟩ = some Value.nilFunc := (cell_of_row _ _ _ _ _ _ hz8).trans rfl; have zf := free_of hz8; have Hd8 := Lib.hid hd8; have Hz8 := Lib.hid hz8; clear hd8 hz8)))
     all_goals
       go_wp2_with fail
       go_meet
       first
         | exact ⟨w8.heap.size, w7.heap.size + 1 + k, rfl, World.alloc_heap_new w8 _, heap_old Hd8.out.2.2, Hd8.out.1.alloc Hd8.out.1.size _⟩
         | exact ⟨w7.heap.size, w7.heap.size + 1 + 1 + k, rfl, (Repl.setCell_row (Repl.setCell_row Hz8.out)).trans rfl, (Below.heap_setCell _ _ _ _ (fun e => by have e2 : w7.heap.size + 1 + 1 + k = w7.heap.size := e; omega)).trans ((Below.heap_setCell _ _ _ _ (fun e => by have e2 : w7.heap.size + 1 + 1 + k = w7.heap.size := e; omega)).trans Hd8.out.2.2), (Hd8.out.1.setCell (Nat.le_refl _) _).setCell (Nat.le_refl _) _⟩
    case rest =>
     obtain ⟨D, b, rfl, hD, hR, hB⟩ := hcut
     have t0 : wc.cell? ⟨D, 0, none⟩ = some (.slice (some ⟨b, 0, none⟩) (lenD k) (lenD k)) := (cell_of_row _ _ _ _ _ _ hD).trans rfl
     have t1 : wc.cell? ⟨D, 1, none⟩ = some (fnV (doD k)) := (cell_of_row _ _ _ _ _ _ hD).trans rfl
     have hWc := HW7.out.below hB
     obtain ⟨r1, r2⟩ := ck_row f o h1k h8
     rw [r1] at hR
     have hl5 : (ckL f o k).length ≤ 100 := by rw [← r2]; rcases kinds8 h1k h8 with rfl | rfl | rfl | rfl | rfl | rfl | rfl | rfl <;> decide
     have hfi := first_calls (ckL f o k) b wc hWc hR hl5 (ck_enters f o h1k h8) (ck_chk Hm.out h1k h8)
     rw [ck_first f o h1k h8 Hko.out, ← r2] at hfi
     have hE : oneE f o = firstE (checks f o) := by unfold oneE; rw [Hmo.out]; rfl
     have hbc : Below w.heap.size w wc := bthen Hbw7.out hB
     have hgr := fun w' (hb : Below wc.heap.size wc w') => cell_grow hb t1
     have hrdc := fun w' (hb : Below wc.heap.size wc w') => Hrd.out w' (bthen hbc hb)
     have heg := do_enters h1k h8
     have Hbc := Lib.hid hbc; have HE := Lib.hid hE; have Hgr := Lib.hid hgr; have Hrdc := Lib.hid hrdc; have HWc := Lib.hid hWc
     obtain ⟨E, hEq⟩ : ∃ E, firstE (checks f o) = E := ⟨_, rfl⟩
     have HEq := Lib.hid hEq
     rw [hEq] at hfi
     have Hfi := Lib.hid hfi
     clear hD hR hB hWc r1 r2 hl5 hfi hE hbc hgr hrdc hEq e7 hsf
     by_cases hE0 : E = 0
     · have hdo := do_all (base := w.heap.size) (wk := w6.heap.size) (g := g6) (c := n6) Hm.out h1k h8 Hko.out (first_zero _ (checks_ne f o) (HEq.out.trans hE0)) hn ht hw1 hw2 (by have := Hb5.out.size; have := Hs0.out; omega)
       have hof : oneF f o = doF f o := by unfold oneF; rw [if_pos (HE.out.trans (HEq.out.trans hE0))]
       have hdo2 : ∀ w', Wk w.heap.size w6.heap.size g6 n6 o f w' → Calls Tryz.prog (doD k) #[.pointer (some ⟨w6.heap.size, 0, none⟩)] w' (DoPost w.heap.size w6.heap.size o (doF f o) w') := fun w' h' => hdo w' h'
       have Hdo := Lib.hid hdo2; have Hof := Lib.hid hof
       subst hE0
       clear hdo hof hdo2
       go_wp2_with (first
         | (go_at_call 54; ((with_reducible refine (Hfi.out).mono ?_); rintro e w10 ⟨rfl, hb10⟩; have t10 := Hgr.out _ hb10; have Hb10 := Lib.hid hb10; clear hb10))
         | ((with_reducible refine (Hdo.out w10 (HWc.out.below Hb10.out)).mono ?_); rintro e w11 ⟨rfl, g11, c11, hW11, hb11⟩; have q11 := hW11.cells.1; have HW11 := Lib.hid hW11; have Hb11 := Lib.hid hb11; clear hW11 hb11))
       go_ret2
       exact ⟨_, by rw [HE.out, HEq.out]; rfl, by rw [Hof.out]; exact LoF.of_ownx HW11.out.ownx (fun b hb => hb.2) hlo, (bthen Hbc.out Hb10.out).trans Hb11.out⟩
     · have hof := one_bad (f := f) (o := o) (by rw [HE.out, HEq.out]; exact hE0)
       have Hof := Lib.hid hof
       have hE1 : (E != 0) = true := by rw [bne_iff_ne]; exact hE0
       clear hof
       go_wp2_with (first
         | (go_at_call 54; ((with_reducible refine (Hfi.out).mono ?_); rintro e w10 ⟨rfl, hb10⟩; have t10 := Hgr.out _ hb10; have Hb10 := Lib.hid hb10; clear hb10)))
       go_ret2
       exact ⟨_, by rw [HE.out, HEq.out]; rfl, by rw [Hof.out]; exact Hrdc.out _ Hb10.out, bthen Hbc.out Hb10.out⟩
theorem one_calls (w : World) (v : Value) (f : Fo) (o : Opn) (h : RdF w.heap.size w v f) (hm : mayB f = true) (hn : o.name.size ≤ maxLen) (ht : o.text.size ≤ maxLen) (hw1 : (Lit.int .i64 o.id).wf = true) (hw2 : (Lit.int .i64 o.to).wf = true) :
    Calls Tryz.prog 21 #[v, .agg #[.int .i64 o.kind, .int .i64 o.id, .int .i64 o.to, .int .i64 o.at_, .string o.name, .string o.text]] w (OnePost f o w) :=
  (@one_lo ⟨0⟩ w v f o (LoF.of_rd h) (Nat.zero_le _) hm hn ht hw1 hw2).mono (fun e w' ⟨v', h1, h2, h3⟩ => ⟨v', h1, h2.rd, h3⟩)
end Go.Proofs.YthdenkkllpkplaaGreat.Doings
end
section
/- How operations lie in memory. -/
namespace Go.Proofs.YthdenkkllpkplaaGreat.Shapes
open Go Go.RowKit Go.Deep Go.Proofs.YthdenkkllpkplaaGreat.Rd Go.Proofs.YthdenkkllpkplaaGreat.FS
set_option linter.unusedVariables false
def opE : Elem Opn := fun _ _ cs o => cs = [.int .i64 o.kind, .int .i64 o.id, .int .i64 o.to, .int .i64 o.at_, .string o.name, .string o.text] ∧ o.name.size ≤ maxLen ∧ o.text.size ≤ maxLen ∧ (Lit.int .i64 o.kind).wf = true ∧ (Lit.int .i64 o.id).wf = true ∧ (Lit.int .i64 o.to).wf = true ∧ (Lit.int .i64 o.at_).wf = true
theorem opE_keeps : opE.Keeps := fun _ _ _ _ _ _ h _ _ => h
abbrev RdO := RdL opE 6
section
variable {H : Type} {P : Program} {base : Nat} {spare : Nat → Bool} {held : Bool}
theorem opens_op {enc : TypeId × Value → H} {w : World} {e : TypeId} {f0 f1 f2 f3 f4 f5 : Field} (hs : P.underlying e = some (.struct #[f0, f1, f2, f3, f4, f5])) (hone : oneCellFields P #[f0, f1, f2, f3, f4, f5] = true) (hC : P.cellsOf e = 6)
    (h0 : P.underlying f0.type = some (.int .i64)) (h1 : P.underlying f1.type = some (.int .i64)) (h2 : P.underlying f2.type = some (.int .i64)) (h3 : P.underlying f3.type = some (.int .i64)) (h4 : P.underlying f4.type = some .string) (h5 : P.underlying f5.type = some .string) :
    Opens enc P w base spare held e opE := fun fuel cs x h => by
  obtain ⟨xs, n, _, hx, hlc, hlen, hg⟩ := DataW.trod_struct hs h
  rw [hC] at hlc
  match cs, hlc with
  | [c0, c1, c2, c3, c4, c5], _ =>
    obtain ⟨o0, k0⟩ := hone_of hone 0 f0 rfl
    obtain ⟨o1, k1⟩ := hone_of hone 1 f1 rfl
    obtain ⟨o2, k2⟩ := hone_of hone 2 f2 rfl
    obtain ⟨o3, k3⟩ := hone_of hone 3 f3 rfl
    obtain ⟨o4, k4⟩ := hone_of hone 4 f4 rfl
    obtain ⟨o5, k5⟩ := hone_of hone 5 f5 rfl
    match xs, hlen with
    | [y0, y1, y2, y3, y4, y5], _ =>
      have g0 := hg 0 f0 rfl
      have g1 := hg 1 f1 rfl
      have g2 := hg 2 f2 rfl
      have g3 := hg 3 f3 rfl
      have g4 := hg 4 f4 rfl
      have g5 := hg 5 f5 rfl
      simp [o0, k0] at g0
      simp [o1, k1] at g1
      simp [o2, k2] at g2
      simp [o3, k3] at g3
      simp [o4, k4] at g4
      simp [o5, k5] at g5
      obtain ⟨z0, e0, _, m0⟩ := DataW.trod_int h0 g0
      obtain ⟨z1, e1, _, m1⟩ := DataW.trod_int h1 g1
      obtain ⟨z2, e2, _, m2⟩ := DataW.trod_int h2 g2
      obtain ⟨z3, e3, _, m3⟩ := DataW.trod_int h3 g3
      obtain ⟨z4, e4, _, m4⟩ := DataW.trod_string h4 g4
      obtain ⟨z5, e5, _, m5⟩ := DataW.trod_string h5 g5
      simp at e0 e1 e2 e3 e4 e5
      exact ⟨⟨z0, z1, z2, z3, z4, z5⟩, by rw [e0, e1, e2, e3, e4, e5], m4, m5, m0, m1, m2, m3⟩
theorem opens_op_Op {enc : TypeId × Value → H} {w : World} : Opens enc Tryz.prog w base spare held 24 opE :=
  opens_op Tryz.underlying24 (by kernel_rfl) (by kernel_rfl) Tryz.underlying3 Tryz.underlying3 Tryz.underlying3 Tryz.underlying3 Tryz.underlying9 Tryz.underlying9
end
/-- An operation by value. -/
abbrev opV (o : Opn) : Value := .agg #[.int .i64 o.kind, .int .i64 o.id, .int .i64 o.to, .int .i64 o.at_, .string o.name, .string o.text]
/-- What the numbers and texts of an operation keep to. -/
def OkO (o : Opn) : Prop := o.name.size ≤ maxLen ∧ o.text.size ≤ maxLen ∧ (Lit.int .i64 o.kind).wf = true ∧ (Lit.int .i64 o.id).wf = true ∧ (Lit.int .i64 o.to).wf = true ∧ (Lit.int .i64 o.at_).wf = true
theorem open_op {H : Type} {P : Program} {enc : TypeId × Value → H} {w : World} {base b0 : Nat} {spare : Nat → Bool} {held : Bool} {r : Reach} {e : TypeId} {fs : Array Field} {v : Value} {d : DataW H} {p : List MemPlace} (hs : P.underlying e = some (.struct fs)) (hE : Opens enc P w base spare held e opE)
    (hv : Value.okWide P w r b0 e v) (h : DataW.Trod enc P w base spare held e v d p) : ∃ o : Opn, v = opV o ∧ OkO o := by
  obtain ⟨cs, rfl, hsz⟩ := Go.WideShapes.okWide_struct hs hv
  obtain ⟨fuel, hf⟩ := h
  obtain ⟨o, ho, hk⟩ := hE fuel _ _ hf
  refine ⟨o, ?_, hk⟩
  have hc : cs.toList = [.int .i64 o.kind, .int .i64 o.id, .int .i64 o.to, .int .i64 o.at_, .string o.name, .string o.text] := by simpa [Value.cells] using ho
  show Value.agg cs = _
  rw [← Array.toArray_toList (xs := cs), hc]
theorem op_at {B : Nat} {w : World} {A : Option Addr} {n c : Nat} {l : List Opn} (h : RdO B w (.slice A n c) l) {i : Nat} (hi : i < l.length) :
    ∃ b o : Nat, A = some ⟨b, o, none⟩ ∧ b < B ∧ w.cell? ⟨b, o + i * 6, none⟩ = some (.int .i64 l[i].kind) ∧ w.cell? ⟨b, o + i * 6 + 1, none⟩ = some (.int .i64 l[i].id) ∧ w.cell? ⟨b, o + i * 6 + 2, none⟩ = some (.int .i64 l[i].to) ∧ w.cell? ⟨b, o + i * 6 + 3, none⟩ = some (.int .i64 l[i].at_) ∧
      w.cell? ⟨b, o + i * 6 + 4, none⟩ = some (.string l[i].name) ∧ w.cell? ⟨b, o + i * 6 + 5, none⟩ = some (.string l[i].text) ∧ l[i].name.size ≤ maxLen ∧ l[i].text.size ≤ maxLen ∧ (Lit.int .i64 l[i].id).wf = true ∧ (Lit.int .i64 l[i].to).wf = true := by
  obtain ⟨b, o, cs, e, hb, hlen, hc, hcs, m1, m2, m3, m4, m5, m6⟩ := h.at_ hi
  subst hcs
  exact ⟨b, o, e, hb, hc 0 _ rfl, hc 1 _ rfl, hc 2 _ rfl, hc 3 _ rfl, hc 4 _ rfl, hc 5 _ rfl, m1, m2, m4, m5⟩
end Go.Proofs.YthdenkkllpkplaaGreat.Shapes
namespace Go.Proofs.YthdenkkllpkplaaGreat.Grown
open Go Go.RowKit Go.Proofs.YthdenkkllpkplaaGreat.Seq Go.Proofs.YthdenkkllpkplaaGreat.WS Go.Proofs.YthdenkkllpkplaaGreat.FS Go.Proofs.YthdenkkllpkplaaGreat.Mem Go.Proofs.YthdenkkllpkplaaGreat.Rd Go.Proofs.YthdenkkllpkplaaGreat.Shapes Go.Proofs.YthdenkkllpkplaaGreat.Word Go.Proofs.YthdenkkllpkplaaGreat.FFam
set_option linter.unusedVariables false
set_option linter.unusedSimpArgs false
def opB (o : Opn) : Bool := decide (o.name.size ≤ 300) && decide (o.text.size ≤ 300)
def bndO (l : List Opn) : Bool := l.all opB && decide (l.length ≤ 150)
theorem bndO_no {l : List Opn} {k : Nat} (hk : k < l.length) (h : opB l[k] = false) : bndO l = false := by
  unfold bndO
  rw [Bool.and_eq_false_iff]
  left
  rw [List.all_eq_false]
  exact ⟨l[k], List.getElem_mem _, by rw [h]; simp⟩
noncomputable def growF (l : List Opn) : Fo := l.foldl oneF newFo
theorem grow_may (l : List Opn) : mayB (growF l) = true := by
  unfold growF
  have : ∀ (l : List Opn) (f : Fo), mayB f = true → mayB (l.foldl oneF f) = true := by
    intro l
    induction l with
    | nil => exact fun f h => h
    | cons o l ih => exact fun f h => ih _ (one_may h o)
  exact this l _ new_may
theorem grow_snoc (l : List Opn) (o : Opn) : growF (l ++ [o]) = oneF (growF l) o := by unfold growF; rw [List.foldl_append]; rfl
end Go.Proofs.YthdenkkllpkplaaGreat.Grown
end
section
/- What the laws of operations say, of the plain functions: an unknown node, who is named, a list of operations. No program. -/
namespace Go.Proofs.YthdenkkllpkplaaGreat.FS
open Go.Proofs.YthdenkkllpkplaaGreat.WS
set_option linter.unusedVariables false

theorem mayO_mk {o : Opn} (hk : 1 ≤ o.kind ∧ o.kind ≤ 8) (hn : o.name.size ≤ 255) (ht : o.text.size ≤ 255) (h1 : 1 ≤ shapeN o.kind ∨ o.id = 0) (h2 : 2 ≤ shapeN o.kind ∨ o.to = 0) (h3 : 3 ≤ shapeN o.kind ∨ o.at_ = 0) (h4 : shapeA o.kind = true ∨ o.name.size = 0) (h5 : shapeT o.kind = true ∨ o.text.size = 0) : mayO o = true := by
  unfold mayO
  simp only [Bool.and_eq_true, Bool.or_eq_true, decide_eq_true_eq, beq_iff_eq]
  exact ⟨⟨⟨⟨⟨⟨⟨hk, hn⟩, ht⟩, h1⟩, h2⟩, h3⟩, h4⟩, h5⟩
theorem mayO_4 (n p a : Int) : mayO { kind := 4, id := n, «to» := p, at_ := a } = true :=
  mayO_mk (show (1 : Int) ≤ 4 ∧ (4 : Int) ≤ 8 by decide) (show (⟨#[]⟩ : ByteArray).size ≤ 255 by decide) (show (⟨#[]⟩ : ByteArray).size ≤ 255 by decide) (.inl (show 1 ≤ shapeN 4 by decide)) (.inl (show 2 ≤ shapeN 4 by decide)) (.inl (show 3 ≤ shapeN 4 by decide)) (.inr rfl) (.inr rfl)
theorem mayO_5 (n : Int) : mayO { kind := 5, id := n } = true :=
  mayO_mk (show (1 : Int) ≤ 5 ∧ (5 : Int) ≤ 8 by decide) (show (⟨#[]⟩ : ByteArray).size ≤ 255 by decide) (show (⟨#[]⟩ : ByteArray).size ≤ 255 by decide) (.inl (show 1 ≤ shapeN 5 by decide)) (.inr rfl) (.inr rfl) (.inr rfl) (.inr rfl)
theorem mayO_6 (n : Int) {s t : ByteArray} (hs : s.size ≤ 255) (ht : t.size ≤ 255) : mayO { kind := 6, id := n, name := s, text := t } = true :=
  mayO_mk (show (1 : Int) ≤ 6 ∧ (6 : Int) ≤ 8 by decide) hs ht (.inl (show 1 ≤ shapeN 6 by decide)) (.inr rfl) (.inr rfl) (.inl rfl) (.inl rfl)
theorem mayO_7 (n : Int) {s : ByteArray} (hs : s.size ≤ 255) : mayO { kind := 7, id := n, name := s } = true :=
  mayO_mk (show (1 : Int) ≤ 7 ∧ (7 : Int) ≤ 8 by decide) hs (show (⟨#[]⟩ : ByteArray).size ≤ 255 by decide) (.inl (show 1 ≤ shapeN 7 by decide)) (.inr rfl) (.inr rfl) (.inl rfl) (.inr rfl)
theorem mayO_1 {s : ByteArray} (hs : s.size ≤ 255) : mayO { kind := 1, name := s } = true :=
  mayO_mk (show (1 : Int) ≤ 1 ∧ (1 : Int) ≤ 8 by decide) hs (show (⟨#[]⟩ : ByteArray).size ≤ 255 by decide) (.inr rfl) (.inr rfl) (.inr rfl) (.inl rfl) (.inr rfl)
theorem mayO_23 {k : Int} (hk : k = 2 ∨ k = 3) {t : ByteArray} (ht : t.size ≤ 255) : mayO { kind := k, text := t } = true :=
  mayO_mk (show (1 : Int) ≤ k ∧ k ≤ 8 by omega) (show (⟨#[]⟩ : ByteArray).size ≤ 255 by decide) ht (.inr rfl) (.inr rfl) (.inr rfl) (.inr rfl) (.inl (by rcases hk with rfl | rfl <;> rfl))
theorem checks_known {f : Fo} {o : Opn} (hk : 4 ≤ o.kind) : ∃ t, checks f o = (70, knownB f o) :: t := by
  unfold checks
  rw [if_neg (by omega), if_neg (by omega)]
  repeat' split
  all_goals exact ⟨_, rfl⟩
theorem one_unknown {f : Fo} {o : Opn} (hm : mayO o = true) (hk : 4 ≤ o.kind) (hn : isNode f o.id = false) : oneE f o = 70 := by
  obtain ⟨t, ht⟩ := checks_known (f := f) hk
  unfold oneE
  rw [if_pos hm, ht]
  unfold firstE knownB
  simp [hn]
theorem one_arg {f : Fo} {o : Opn} (hm : mayO o = false) : oneE f o = 1 := by
  unfold oneE
  rw [hm]
  rfl
/-- Does o name node i, or is i the parent of the node that it names? -/
def namedF (f : Fo) (o : Opn) (i : Nat) : Bool := decide (4 ≤ o.kind) && (o.id == i || (o.kind == 4 && o.to == i) || (isNode f o.id && (at_ f o.id).parent == i))
theorem one_keeps {f : Fo} {o : Opn} (hm : mayB f = true) (he : oneE f o = 0) : f.length ≤ (oneF f o).length ∧ (oneF f o).length ≤ f.length + 1 ∧ ∀ i : Nat, i < f.length → namedF f o i = false → at_ (oneF f o) i = at_ f i := by
  obtain ⟨hmo, hch⟩ := one_kinds he
  have hk := (mayO_kind hmo).1
  have h := may_is hm
  unfold oneF
  rw [if_pos he]
  by_cases k3 : o.kind ≤ 3
  · unfold doF
    rw [if_pos k3]
    unfold freshF
    refine ⟨by simp, by simp, fun i hi _ => ?_⟩
    rw [at_snoc, if_neg (by omega)]
  have h4 : 4 ≤ o.kind := by omega
  obtain ⟨t, ht⟩ := checks_known (f := f) h4
  have hkn : isNode f o.id = true := hch (70, knownB f o) (by rw [ht]; simp)
  obtain ⟨n, hoi, hn⟩ := node_nat hkn
  have hset : ∀ nd : Nd, f.length ≤ (f.set o.id.toNat nd).length ∧ (f.set o.id.toNat nd).length ≤ f.length + 1 ∧ ∀ i : Nat, i < f.length → namedF f o i = false → at_ (f.set o.id.toNat nd) i = at_ f i := fun nd => by
    refine ⟨by simp, by simp, fun i hi hno => ?_⟩
    unfold namedF at hno
    rw [decide_eq_true h4, Bool.true_and, Bool.or_eq_false_iff, Bool.or_eq_false_iff, hoi] at hno
    have h1 := hno.1.1
    rw [beq_eq_false_iff_ne] at h1
    rw [hoi, Int.toNat_natCast, set_at hn, if_neg (fun e => h1 e.symm)]
  unfold doF
  rw [if_neg k3]
  by_cases k4 : o.kind = 4
  · rw [if_pos k4]
    unfold checks at hch
    rw [if_neg (by omega), if_neg (by omega), if_pos k4] at hch
    obtain ⟨t, hot, ht'⟩ := node_nat (k := o.to) (hch (70, isNode f o.to) (by simp))
    refine ⟨by rw [insert_length]; omega, by rw [insert_length]; omega, fun i hi hno => ?_⟩
    unfold namedF at hno
    rw [decide_eq_true h4, Bool.true_and, Bool.or_eq_false_iff, Bool.or_eq_false_iff, hkn, Bool.true_and, k4, hoi, hot] at hno
    obtain ⟨⟨h1, h2⟩, h3⟩ := hno
    rw [beq_eq_false_iff_ne] at h1 h3
    have h2' : ¬ (t : Int) = (i : Int) := by simpa using h2
    rw [insert_at h hoi hot hn ht', if_neg (fun e => h1 e.symm), if_neg (fun e => h2' e.symm), filter_none (not_kid h h3)]
  rw [if_neg k4]
  by_cases k5 : o.kind = 5
  · rw [if_pos k5]
    refine ⟨by rw [take_length]; omega, by rw [take_length]; omega, fun i hi hno => ?_⟩
    unfold namedF at hno
    rw [decide_eq_true h4, Bool.true_and, Bool.or_eq_false_iff, Bool.or_eq_false_iff, hkn, Bool.true_and, hoi] at hno
    obtain ⟨⟨h1, h2⟩, h3⟩ := hno
    rw [beq_eq_false_iff_ne] at h1 h3
    rw [hoi, take_at h hn, if_neg (fun e => h1 e.symm), filter_none (not_kid h h3)]
  rw [if_neg k5]
  repeat' split
  all_goals exact hset _
/-! A list of operations, up to the first error. -/
noncomputable def allE : Fo → List Opn → Int
  | _, [] => 0
  | f, o :: l => if oneE f o = 0 then allE (oneF f o) l else oneE f o
noncomputable def allN : Fo → List Opn → Nat
  | _, [] => 0
  | f, o :: l => if oneE f o = 0 then allN (oneF f o) l + 1 else 0
noncomputable def allG : Fo → List Opn → Fo
  | f, [] => f
  | f, o :: l => if oneE f o = 0 then allG (oneF f o) l else f
noncomputable def allF (f : Fo) (l : List Opn) : Fo := if allE f l = 0 then allG f l else f
theorem allG_may : ∀ (l : List Opn) (f : Fo), mayB f = true → mayB (allG f l) = true
  | [], f, h => h
  | o :: l, f, h => by
    unfold allG
    split
    · exact allG_may l _ (one_may h o)
    · exact h
theorem allF_may {f : Fo} (h : mayB f = true) (l : List Opn) : mayB (allF f l) = true := by
  unfold allF
  split
  · exact allG_may l f h
  · exact h
theorem allN_le : ∀ (l : List Opn) (f : Fo), allN f l ≤ l.length
  | [], f => Nat.le_refl _
  | o :: l, f => by
    unfold allN
    split
    · have := allN_le l (oneF f o); simp; omega
    · simp
theorem allN_full : ∀ (l : List Opn) (f : Fo), allE f l = 0 → allN f l = l.length
  | [], f, _ => rfl
  | o :: l, f, h => by
    unfold allE at h
    unfold allN
    split at h
    · rename_i h0
      rw [if_pos h0, allN_full l _ h]; rfl
    · rename_i h0; exact absurd h h0
theorem allN_lt : ∀ (l : List Opn) (f : Fo), allE f l ≠ 0 → allN f l < l.length
  | [], f, h => absurd rfl h
  | o :: l, f, h => by
    unfold allE at h
    unfold allN
    split at h
    · rename_i h0
      rw [if_pos h0]
      have := allN_lt l _ h
      simp; omega
    · rename_i h0
      rw [if_neg h0]; simp
theorem all_append : ∀ (a b : List Opn) (f : Fo), allE f (a ++ b) = (if allE f a = 0 then allE (allG f a) b else allE f a) ∧ allN f (a ++ b) = (if allE f a = 0 then a.length + allN (allG f a) b else allN f a) ∧ (allE f a = 0 → allG f (a ++ b) = allG (allG f a) b)
  | [], b, f => by simp [allE, allG]
  | o :: a, b, f => by
    obtain ⟨h1, h2, h3⟩ := all_append a b (oneF f o)
    by_cases h0 : oneE f o = 0
    · simp only [List.cons_append, allE, allN, allG, if_pos h0, h1, h2]
      refine ⟨trivial, ?_, h3⟩
      split
      · simp; omega
      · rfl
    · simp only [List.cons_append, allE, allN, allG, if_neg h0]
      exact ⟨trivial, trivial, fun h => absurd h h0⟩
end Go.Proofs.YthdenkkllpkplaaGreat.FS
end
section
/- apply.All. -/
namespace Go.Proofs.YthdenkkllpkplaaGreat.Ap
open Go Go.RowKit Go.Proofs.YthdenkkllpkplaaGreat.Seq Go.Proofs.YthdenkkllpkplaaGreat.WS Go.Proofs.YthdenkkllpkplaaGreat.FS Go.Proofs.YthdenkkllpkplaaGreat.Mem Go.Proofs.YthdenkkllpkplaaGreat.Rd Go.Proofs.YthdenkkllpkplaaGreat.Shapes Go.Proofs.YthdenkkllpkplaaGreat.Word Go.Proofs.YthdenkkllpkplaaGreat.FFam Go.Proofs.YthdenkkllpkplaaGreat.Grown
set_option linter.unusedVariables false
set_option linter.unusedSimpArgs false
def AllPost (f : Fo) (l : List Opn) (w : World) (e : Ending) (w' : World) : Prop := ∃ v', e = .returned (.tuple #[v', .int .i64 (allN f l), .int .i64 (allE f l)]) ∧ RdF w'.heap.size w' v' (allF f l) ∧ Below w.heap.size w w'
set_option maxRecDepth 100000 in
set_option maxHeartbeats 4000000 in
theorem All_calls (w : World) (v vl : Value) (f : Fo) (l : List Opn) (h : RdF w.heap.size w v f) (hm : mayB f = true) (hl : RdO w.heap.size w vl l) : Calls Tryz.prog 29 #[v, vl] w (AllPost f l w) := by
  have hrd := fun w' (hb : Below w.heap.size w w') => hl.below opE_keeps (w' := w') hb (Nat.le_refl _)
  have hrf := fun w' (hb : Below w.heap.size w w') => (h.below nodeE_keeps (w' := w') hb (Nat.le_refl _)).mono nodeE_keeps hb.size
  obtain ⟨A0, c0, rfl, hl0, hc0, _⟩ := hl.form
  simp only [maxLen] at hc0
  obtain ⟨Af, cf, rfl, _, _, _⟩ := h.form
  have Hrd := Lib.hid hrd; have Hrf := Lib.hid hrf; have Hm := Lib.hid hm
  clear h hrd hrf hl hm
  go_enter Tryz.func29, Tryz.ntmps29
  go_wp2_with fail
  go_loopw [7, 15] (fun g i wr => ∃ (k : Nat) (G : Fo), k ≤ l.length ∧ i = .int .i64 k ∧ RdF wr.heap.size wr g G ∧ Hid (mayB G = true ∧ allE f l = allE G (l.drop k) ∧ allN f l = k + allN G (l.drop k) ∧ allG f l = allG G (l.drop k)) ∧ Below w.heap.size w wr) (fun _ i _ => l.length - (intOf i).toNat)
  case atStart => exact ⟨0, f, Nat.zero_le _, rfl, Hrf.out _ (Below.refl _ _), Lib.hid ⟨Hm.out, rfl, by simp, rfl⟩, Below.refl _ _⟩
  case round =>
    obtain ⟨k, G, hk, rfl, hr, hG, hb⟩ := hrel
    obtain ⟨hmg, hE, hN, hS⟩ := hG.out
    obtain ⟨A3, c3, rfl, _, _, hr'⟩ := hr.form
    by_cases hlt : k < l.length
    · obtain ⟨b, o, rfl, hbl, g0, g1, g2, g3, g4, g5, m1, m2, m3, m4⟩ := op_at (Hrd.out _ hb) hlt
      have hdk : l.drop k = l[k] :: l.drop (k + 1) := List.drop_eq_getElem_cons hlt
      have hone := fun w' (hb' : Below wr.heap.size wr w') => Doings.one_calls w' _ _ l[k] ((hr'.below nodeE_keeps (w' := w') hb' (Nat.le_refl _)).mono nodeE_keeps hb'.size) hmg m1 m2 m3 m4
      unfold Doings.OnePost at hone
      have hmn := one_may hmg l[k]
      rw [hdk] at hE hN hS
      generalize l[k] = x at *
      have hbx : ∀ cs t, Below wr.heap.size wr (wr.alloc (.cells cs t)) := fun cs t => (Below.refl _ _).alloc (Nat.le_refl _) _
      have Hone := Lib.hid hone; have Hb := Lib.hid hb; have Hbx := Lib.hid hbx
      by_cases he : oneE G x = 0
      · rw [he] at Hone
        have h1 : allE f l = allE (oneF G x) (l.drop (k + 1)) := by rw [hE, allE, if_pos he]
        have h2 : allN f l = (k + 1) + allN (oneF G x) (l.drop (k + 1)) := by rw [hN, allN, if_pos he]; omega
        have h3 : allG f l = allG (oneF G x) (l.drop (k + 1)) := by rw [hS, allG, if_pos he]
        have HH := Lib.hid (And.intro hmn (And.intro h1 (And.intro h2 h3)))
        clear hone hb hbx hE hN hS hG hmg hr hr' m1 m2 m3 m4 h1 h2 h3 hmn hdk
        go_wp2_with (go_at_call 21; ((with_reducible refine (Hone.out _ (Hbx.out _ _)).mono ?_); rintro e w5 ⟨v5, rfl, hr5, hb5⟩; have Hr5 := Lib.hid hr5; have Hb5 := Lib.hid (bthen (Hbx.out _ _) hb5); clear hr5 hb5))
        go_roundw
        case rel => exact ⟨k + 1, oneF G x, by omega, by go_num, Hr5.out, HH, bthen Hb.out Hb5.out⟩
        case measure => simp [intOf]; omega
      · have hq1 : (oneE G x != 0) = true := by rw [bne_iff_ne]; exact he
        have hq2 : (oneE G x == 0) = false := by rw [beq_eq_false_iff_ne]; exact he
        have h1 : allE f l = oneE G x := by rw [hE, allE, if_neg he]
        have h2 : allN f l = k := by rw [hN, allN, if_neg he]; omega
        have h3 : allF f l = f := by unfold allF; rw [if_neg (by rw [h1]; exact he)]
        have HH := Lib.hid (And.intro h1 (And.intro h2 h3))
        clear hone hb hbx hE hN hS hG hmg hr hr' m1 m2 m3 m4 h1 h2 h3 hmn hdk
        generalize oneE G x = E at *
        go_wp2_with (go_at_call 21; ((with_reducible refine (Hone.out _ (Hbx.out _ _)).mono ?_); rintro e w5 ⟨v5, rfl, hr5, hb5⟩; have Hr5 := Lib.hid hr5; have Hb5 := Lib.hid (bthen (Hbx.out _ _) hb5); clear hr5 hb5))
        go_ret3
        exact ⟨.slice Af f.length cf, (by rw [HH.out.1, HH.out.2.1]; rfl), by rw [HH.out.2.2]; exact Hrf.out _ (bthen Hb.out Hb5.out), bthen Hb.out Hb5.out⟩
    · have hd : l.drop k = [] := List.drop_eq_nil_of_le (by omega)
      rw [hd] at hE hN hS
      have h1 : allE f l = 0 := hE
      have h2 : allN f l = l.length := by rw [hN]; show k + 0 = _; omega
      have h3 : allF f l = G := by unfold allF; rw [if_pos h1]; exact hS
      have HH := Lib.hid (And.intro h1 (And.intro h2 h3)); have Hr := Lib.hid hr; have Hb := Lib.hid hb
      clear hE hN hS hG hmg hr hr' hb h1 h2 h3 hd
      go_wp2_with fail
      go_ret3
      exact ⟨.slice A3 G.length c3, (by rw [HH.out.1, HH.out.2.1]; rfl), by rw [HH.out.2.2]; exact Hr.out, Hb.out⟩
end Go.Proofs.YthdenkkllpkplaaGreat.Ap
end
section
/- walk: what it answers, plain; and the laws on it. No program. -/
namespace Go.Proofs.YthdenkkllpkplaaGreat.FS
open Go.Proofs.YthdenkkllpkplaaGreat.WS
set_option linter.unusedVariables false

def parentE (f : Fo) (i : Int) : Int × Int := if isNode f i = false then (0, 70) else if (at_ f i).parent = -1 then (0, 3) else ((at_ f i).parent, 0)
def kidsE (f : Fo) (i : Int) : List Int × Int := if isNode f i = false then ([], 70) else ((at_ f i).kids, 0)
def idxL (l : List Int) (x : Int) : Int := match l.findIdx? (fun y => y == x) with | some i => i | none => -1
def besideE (f : Fo) (i d : Int) : Int × Int :=
  if isNode f i = false then (0, 70)
  else if (at_ f i).parent = -1 then (0, 3)
  else if d < -(idxL (at_ f (at_ f i).parent).kids i) ∨ ((at_ f (at_ f i).parent).kids.length : Int) - idxL (at_ f (at_ f i).parent).kids i ≤ d then (0, 3)
  else ((at_ f (at_ f i).parent).kids.getD (idxL (at_ f (at_ f i).parent).kids i + d).toNat 0, 0)
def ownT (f : Fo) (k : Int) : List UInt8 := if (at_ f k).kind = 2 then (at_ f k).text.data.toList else []
noncomputable def contentL (f : Fo) (i : Int) : List UInt8 := (order f i).flatMap (ownT f)
def attrV (f : Fo) (i : Int) (s : ByteArray) : Option ByteArray := ((at_ f i).attrs.find? (fun a => decide (a.name = s))).map (·.value)
def attrErr (f : Fo) (i : Int) (s : ByteArray) : Int := if isNode f i = false then 70 else if (at_ f i).kind ≠ 1 then 71 else if (attrV f i s).isSome then 0 else 75
def attrVal (f : Fo) (i : Int) (s : ByteArray) : ByteArray := if attrErr f i s = 0 then (attrV f i s).getD ⟨#[]⟩ else ⟨#[]⟩
/-- The name of the attribute that is an id. -/
def idN : ByteArray := ⟨#[105, 100]⟩
def hitB (f : Fo) (text : ByteArray) (k : Int) : Bool := decide (attrErr f k idN = 0) && decide (attrVal f k idN = text) && decide (text.size ≠ 0)
noncomputable def byId (f : Fo) (text : ByteArray) : Option Int := (order f 0).find? (hitB f text)

/-! Orders. -/
section
variable {f : Fo} (h : IsMay f)
include h
theorem IsMay.fam : familyB f = true := may_family (is_may h)
theorem order_mem {i : Int} (hi : isNode f i = true) (j : Int) : j ∈ order f i ↔ isNode f j = true ∧ belowB f i j = true := by
  rw [mem_order h.fam h.climb hi]
  constructor
  · rintro ⟨h1, m, hm⟩
    exact ⟨h1, (below_iff (is_may h) h1).2 ⟨((node_iff _ _).1 hi).1, m, hm⟩⟩
  · rintro ⟨h1, h2⟩
    exact ⟨h1, ((below_iff (is_may h) h1).1 h2).2⟩
theorem order_count {i : Int} (hi : isNode f i = true) {k : Int} (hk : isNode f k = true) : (order f i).count k = if belowB f i k then 1 else 0 := by
  have hn := order_nodup h.fam h.climb hi
  by_cases hb : belowB f i k = true
  · rw [if_pos hb]
    have h1 := (List.nodup_iff_count.1 hn) k
    have h2 := List.count_pos_iff.2 ((order_mem h hi k).2 ⟨hk, hb⟩)
    omega
  · rw [if_neg hb]
    exact List.count_eq_zero_of_not_mem (fun hm => hb ((order_mem h hi k).1 hm).2)
omit h in
/-- The length of a list of small numbers is the sum of how often each is in it. -/
theorem length_counts : ∀ (n : Nat) (l : List Int), (∀ x ∈ l, 0 ≤ x ∧ x < n) → l.length = ((List.range n).map (fun k : Nat => l.count (k : Int))).sum
  | 0, l, hl => by
    cases l with
    | nil => rfl
    | cons x l => have := hl x (by simp); omega
  | n + 1, l, hl => by
    rw [List.range_succ, List.map_append, List.sum_append]
    have h1 := length_counts n (l.filter (fun x => decide (x ≠ (n : Int)))) (fun x hx => by
      obtain ⟨h2, h3⟩ := List.mem_filter.1 hx
      have := hl x h2
      simp at h3
      omega)
    have h2 : ∀ k ∈ List.range n, (l.filter (fun x => decide (x ≠ (n : Int)))).count (k : Int) = l.count (k : Int) := fun k hk => by
      have := List.mem_range.1 hk
      rw [List.count_filter (by simp; omega)]
    rw [List.map_congr_left h2] at h1
    rw [← h1]
    have h3 := List.length_eq_countP_add_countP (fun x => decide (x ≠ (n : Int))) (l := l)
    rw [List.countP_eq_length_filter] at h3
    have h4 : l.countP (fun a => decide ¬(decide (a ≠ (n : Int))) = true) = l.count (n : Int) := by
      unfold List.count
      apply List.countP_congr
      intro x _
      simp
    simp only [List.map_cons, List.map_nil, List.sum_cons, List.sum_nil, Nat.add_zero]
    omega
omit h in
theorem sum_swap {α β : Type} (c : α → β → Nat) : ∀ (l : List α) (m : List β), (l.map (fun x => (m.map (c x)).sum)).sum = (m.map (fun y => (l.map (fun x => c x y)).sum)).sum
  | [], m => by
    rw [List.map_nil, List.sum_nil]
    symm
    exact sum_zero _ (fun x hx => by
      obtain ⟨y, _, rfl⟩ := List.mem_map.1 hx
      rfl)
  | x :: l, m => by
    rw [List.map_cons, List.sum_cons, sum_swap c l m]
    have : ∀ (m : List β), (m.map (c x)).sum + (m.map (fun y => (l.map (fun x => c x y)).sum)).sum = (m.map (fun y => ((x :: l).map (fun x => c x y)).sum)).sum := by
      intro m
      induction m with
      | nil => rfl
      | cons y m ih =>
        simp only [List.map_cons, List.sum_cons] at ih ⊢
        omega
    exact this m
omit h in
theorem sum_ones : ∀ (n : Nat) (c : Nat → Nat), (∀ k, k < n → c k = 1) → ((List.range n).map c).sum = n
  | 0, _, _ => rfl
  | n + 1, c, h => by
    rw [List.range_succ, List.map_append, List.sum_append, sum_ones n c (fun k hk => h k (by omega))]
    simp [h n (by omega)]
omit h in
theorem sum_countP {α : Type} (p : α → Bool) : ∀ l : List α, (l.map (fun x => if p x then 1 else 0)).sum = l.countP p
  | [] => rfl
  | x :: l => by
    rw [List.map_cons, List.sum_cons, sum_countP p l, List.countP_cons]
    omega
/-- All nodes are in the orders of those that stand alone. -/
theorem tops_orders : ((topsL f).map (fun t => (order f t).length)).sum = f.length := by
  have h1 : ∀ t ∈ topsL f, (order f t).length = ((List.range f.length).map (fun k : Nat => if belowB f t k then 1 else 0)).sum := fun t ht => by
    have hn := (mem_tops.1 ht).1
    rw [length_counts f.length _ (fun x hx => (node_iff _ _).1 ((order_mem h hn x).1 hx).1)]
    congr 1
    exact List.map_congr_left (fun k hk => order_count h hn (nodeI (List.mem_range.1 hk)))
  rw [List.map_congr_left h1, sum_swap]
  exact sum_ones _ _ (fun k hk => by
    rw [sum_countP]
    exact top_one (is_may h) (nodeI hk))
omit h in
theorem countP_split {α : Type} {p q r : α → Bool} : ∀ {l : List α}, (∀ y ∈ l, p y = (q y || r y) ∧ ¬ (q y = true ∧ r y = true)) → l.countP p = l.countP q + l.countP r
  | [], _ => rfl
  | y :: l, h => by
    rw [List.countP_cons, List.countP_cons, List.countP_cons, countP_split (fun z hz => h z (by simp [hz]))]
    obtain ⟨h1, h2⟩ := h y (by simp)
    rw [h1]
    cases hq : q y <;> cases hr : r y <;> simp_all <;> omega
omit h in
theorem count_self (n x : Nat) (hx : x < n) : (List.range n).countP (fun k => decide (k = x)) = 1 := by
  have h1 : (List.range n).countP (fun k => decide (k = x)) = (List.range n).count x := by
    unfold List.count
    exact List.countP_congr (fun y _ => by simp)
  rw [h1]
  have h2 := (List.nodup_iff_count.1 (List.nodup_range (n := n))) x
  have h3 := List.count_pos_iff.2 (List.mem_range.2 hx)
  omega
/-- How many a node is below: as many as it is steps up. -/
theorem above_count : ∀ (n : Nat) {i : Int}, isNode f i = true → Up f n i → (List.range f.length).countP (fun k : Nat => belowB f k i) = n
  | 0, i, hi, hu => by have : i < 0 := hu; have := (node_iff f i).1 hi; omega
  | n + 1, i, hi, hu => by
    obtain ⟨x, rfl, hx⟩ := node_nat hi
    have hpar := h.par x hx
    by_cases hp : (at_ f (x : Int)).parent = -1
    · have hn0 : n = 0 := by
        cases n with
        | zero => rfl
        | succ n => have := hu.2.1; omega
      subst hn0
      rw [← count_self f.length x hx, Nat.zero_add]
      refine List.countP_congr (fun k hk => ?_)
      rw [below_iff (is_may h) hi, decide_eq_true_eq]
      constructor
      · intro hb
        by_cases e : k = x
        · exact e
        · rw [belowP_step (by omega) (by omega), hp] at hb
          exact absurd hb (belowP_end (by omega))
      · rintro rfl
        exact ⟨by omega, 0, rfl⟩
    · have hpn : isNode f (at_ f (x : Int)).parent = true := (node_iff _ _).2 ⟨by omega, hpar.2.1⟩
      have ih := above_count n hpn hu.2
      rw [countP_split (q := fun k => decide (k = x)) (r := fun k : Nat => belowB f k (at_ f (x : Int)).parent), count_self f.length x hx, ih]
      · omega
      · intro k hk
        have hkp := below_parent (is_may h) hi (by omega)
        refine ⟨?_, ?_⟩
        · rw [Bool.eq_iff_iff, below_iff (is_may h) hi, Bool.or_eq_true, decide_eq_true_eq, below_iff (is_may h) hpn]
          by_cases e : k = x
          · subst e
            exact ⟨fun _ => .inl rfl, fun _ => ⟨by omega, 0, rfl⟩⟩
          · rw [belowP_step (by omega) (by omega)]
            exact ⟨fun h => .inr h, fun h => by
              rcases h with h | h
              · exact absurd h e
              · exact h⟩
        · rintro ⟨h1, h2⟩
          obtain rfl := of_decide_eq_true h1
          rw [hkp.1] at h2
          cases h2
theorem depth_le {n : Nat} {i : Int} (hi : isNode f i = true) (hu : Up f n i) : 1 ≤ n ∧ n ≤ f.length := by
  have h1 := above_count h n hi hu
  have h2 := List.countP_le_length (p := fun k : Nat => belowB f k i) (l := List.range f.length)
  rw [List.length_range] at h2
  refine ⟨?_, by omega⟩
  cases n with
  | zero => have : i < 0 := hu; have := (node_iff f i).1 hi; omega
  | succ n => omega

/-! Contents, ids. -/
theorem content_eq {i : Int} (hi : isNode f i = true) : contentL f i = ownT f i ++ (at_ f i).kids.flatMap (contentL f) := by
  unfold contentL
  rw [order_eq h.fam h.climb hi, List.flatMap_cons, List.flatMap_assoc]
theorem content_text {i : Int} (hi : isNode f i = true) (hk : (at_ f i).kind = 2) : (at_ f i).kids = [] := by
  obtain ⟨x, rfl, hx⟩ := node_nat hi
  have := (h.node x hx).1
  unfold plainB at this
  rw [if_neg (by omega), if_neg (by omega), if_pos (.inl hk)] at this
  simp only [Bool.and_eq_true, decide_eq_true_eq] at this
  exact this.2
end
/-! Places. -/
theorem idxL_at {l : List Int} (hn : l.Nodup) {j : Nat} (hj : j < l.length) : idxL l l[j] = j := by
  unfold idxL
  have : l.findIdx? (fun y => y == l[j]) = some j := by
    rw [List.findIdx?_eq_some_iff_getElem]
    refine ⟨hj, by simp, fun k hk => ?_⟩
    intro he
    rw [beq_iff_eq] at he
    have := (List.getElem_inj hn).1 he
    omega
  rw [this]
theorem idxL_mem {l : List Int} {x : Int} (hx : x ∈ l) : ∃ j : Nat, ∃ hj : j < l.length, idxL l x = j ∧ l[j] = x := by
  unfold idxL
  cases hf : l.findIdx? (fun y => y == x) with
  | none =>
    rw [List.findIdx?_eq_none_iff] at hf
    have := hf x hx
    simp at this
  | some j =>
    rw [List.findIdx?_eq_some_iff_getElem] at hf
    obtain ⟨hj, h1, _⟩ := hf
    exact ⟨j, hj, rfl, by simpa using h1⟩
theorem beside_at {f : Fo} (h : IsMay f) {i p : Int} (hp : isNode f p = true) {j : Nat} (hj : j < (at_ f p).kids.length) (hi : (at_ f p).kids[j] = i) (d : Int) :
    besideE f i d = if -(j : Int) ≤ d ∧ d < (at_ f p).kids.length - (j : Int) then ((at_ f p).kids.getD ((j : Int) + d).toNat 0, 0) else (0, 3) := by
  obtain ⟨h1, h2⟩ := fam_kids h.fam hp (List.getElem_mem hj)
  rw [hi] at h1 h2
  have hx := idxL_at (kids_nodup h.fam hp) hj
  rw [hi] at hx
  have h0 := ((node_iff _ _).1 hp).1
  unfold besideE
  rw [if_neg (by rw [h1]; decide), h2, if_neg (by omega), hx]
  by_cases hc : -(j : Int) ≤ d ∧ d < (at_ f p).kids.length - (j : Int)
  · rw [if_pos hc, if_neg (by omega)]
  · rw [if_neg hc, if_pos (by omega)]
end Go.Proofs.YthdenkkllpkplaaGreat.FS
end
section
/- The forest that the law's first lines show. No program. -/
namespace Go.Proofs.YthdenkkllpkplaaGreat.FS
open Go.Proofs.YthdenkkllpkplaaGreat.WS
set_option linter.unusedVariables false
def demoF : Fo := [⟨0, ⟨#[]⟩, ⟨#[]⟩, [], -1, [1]⟩, ⟨1, ⟨#[100, 105, 118]⟩, ⟨#[]⟩, [], 0, [2]⟩, ⟨2, ⟨#[]⟩, ⟨#[120, 60]⟩, [], 1, []⟩]
theorem demo_family : familyB demoF = true := by decide
theorem demo_climbs : climbsP demoF := by
  intro i hi
  have h3 : i < 3 := hi
  match i, h3 with
  | 0, _ => exact ⟨1, by simp only [Up]; decide⟩
  | 1, _ => exact ⟨2, by simp only [Up]; decide⟩
  | 2, _ => exact ⟨3, by simp only [Up]; decide⟩
theorem demo_may : mayB demoF = true := by
  unfold mayB
  rw [demo_family, climbs_true demo_climbs]
  decide
theorem demo_below : belowB demoF 0 2 = true := below_eq demo_may (by decide) ⟨fun _ => rfl, fun _ => ⟨by decide, 2, by simp only [Reach]; decide⟩⟩
theorem demo_tops : (topsL demoF).length = 1 := by decide
theorem demo_print : printF demoF 0 = [60, 100, 105, 118, 62, 120, 38, 108, 116, 59, 60, 47, 100, 105, 118, 62] := by
  unfold printF
  rw [if_pos ⟨demo_may, by decide⟩, printL_eq demo_family demo_climbs (by decide)]
  rw [show (at_ demoF 0).kids = [1] by decide, List.flatMap_cons, List.flatMap_nil, printL_eq demo_family demo_climbs (by decide)]
  rw [show (at_ demoF 1).kids = [2] by decide, List.flatMap_cons, List.flatMap_nil, printL_eq demo_family demo_climbs (by decide)]
  rw [show (at_ demoF 2).kids = [] by decide, List.flatMap_nil]
  decide
end Go.Proofs.YthdenkkllpkplaaGreat.FS
end
section
/- The forest that treillagelaw08 shows. No program. -/
namespace Go.Proofs.YthdenkkllpkplaaGreat.FS
open Go.Proofs.YthdenkkllpkplaaGreat.WS
set_option linter.unusedVariables false
def dOps : List Opn := [{ kind := 1, name := ⟨#[97]⟩ }, { kind := 4, id := 1 }, { kind := 2, text := ⟨#[120]⟩ }, { kind := 4, id := 2, «to» := 1 }, { kind := 6, id := 1, name := ⟨#[105, 100]⟩, text := ⟨#[107]⟩ }]
def d1 : Fo := [⟨0, ⟨#[]⟩, ⟨#[]⟩, [], -1, []⟩, ⟨1, ⟨#[97]⟩, ⟨#[]⟩, [], -1, []⟩]
def d2 : Fo := [⟨0, ⟨#[]⟩, ⟨#[]⟩, [], -1, [1]⟩, ⟨1, ⟨#[97]⟩, ⟨#[]⟩, [], 0, []⟩]
def d3 : Fo := [⟨0, ⟨#[]⟩, ⟨#[]⟩, [], -1, [1]⟩, ⟨1, ⟨#[97]⟩, ⟨#[]⟩, [], 0, []⟩, ⟨2, ⟨#[]⟩, ⟨#[120]⟩, [], -1, []⟩]
def d4 : Fo := [⟨0, ⟨#[]⟩, ⟨#[]⟩, [], -1, [1]⟩, ⟨1, ⟨#[97]⟩, ⟨#[]⟩, [], 0, [2]⟩, ⟨2, ⟨#[]⟩, ⟨#[120]⟩, [], 1, []⟩]
def d5 : Fo := [⟨0, ⟨#[]⟩, ⟨#[]⟩, [], -1, [1]⟩, ⟨1, ⟨#[97]⟩, ⟨#[]⟩, [⟨⟨#[105, 100]⟩, ⟨#[107]⟩⟩], 0, [2]⟩, ⟨2, ⟨#[]⟩, ⟨#[120]⟩, [], 1, []⟩]
theorem one_do {f g : Fo} {o : Opn} (h : oneE f o = 0) (hd : doF f o = g) : oneF f o = g := by unfold oneF; rw [if_pos h, hd]
theorem e1 : oneF newFo { kind := 1, name := ⟨#[97]⟩ } = d1 := one_do (by
  unfold oneE checks
  rw [if_pos (by decide), if_pos rfl]
  decide) (by decide)
theorem m1 : mayB d1 = true := by rw [← e1]; exact one_may new_may _
theorem b1 : belowB d1 1 0 = false := below_eq m1 (by decide) ⟨fun h => by
  rw [belowP_step (by decide) (by decide)] at h
  exact absurd h (belowP_end (by decide)), fun h => by cases h⟩
theorem e2 : oneF d1 { kind := 4, id := 1 } = d2 := one_do (by
  unfold oneE checks
  rw [if_pos (by decide), if_neg (by decide), if_neg (by decide), if_pos rfl]
  simp only [b1]
  decide) (by decide)
theorem m2 : mayB d2 = true := by rw [← e2]; exact one_may m1 _
theorem e3 : oneF d2 { kind := 2, text := ⟨#[120]⟩ } = d3 := one_do (by
  unfold oneE checks
  rw [if_pos (by decide), if_neg (by decide), if_pos (by decide)]
  decide) (by decide)
theorem m3 : mayB d3 = true := by rw [← e3]; exact one_may m2 _
theorem b3 : belowB d3 2 1 = false := below_eq m3 (by decide) ⟨fun h => by
  rw [belowP_step (by decide) (by decide), show (at_ d3 1).parent = 0 by decide, belowP_step (by decide) (by decide)] at h
  exact absurd h (belowP_end (by decide)), fun h => by cases h⟩
theorem e4 : oneF d3 { kind := 4, id := 2, «to» := 1 } = d4 := one_do (by
  unfold oneE checks
  rw [if_pos (by decide), if_neg (by decide), if_neg (by decide), if_pos rfl]
  simp only [b3]
  decide) (by decide)
theorem m4 : mayB d4 = true := by rw [← e4]; exact one_may m3 _
theorem e5 : oneF d4 { kind := 6, id := 1, name := ⟨#[105, 100]⟩, text := ⟨#[107]⟩ } = d5 := one_do (by
  unfold oneE checks
  rw [if_pos (by decide), if_neg (by decide), if_neg (by decide), if_neg (by decide), if_neg (by decide), if_pos rfl]
  decide) (by decide)
theorem m5 : mayB d5 = true := by rw [← e5]; exact one_may m4 _
theorem d_grow : dOps.foldl oneF newFo = d5 := by
  show oneF (oneF (oneF (oneF (oneF newFo _) _) _) _) _ = d5
  rw [e1, e2, e3, e4, e5]
theorem d_node {i : Int} (h : isNode d5 i = true) : order d5 i = i :: (at_ d5 i).kids.flatMap (order d5) := order_eq (may_is m5).fam (may_is m5).climb h
theorem d_order : order d5 0 = [0, 1, 2] := by
  rw [d_node (by decide), show (at_ d5 0).kids = [1] by decide, List.flatMap_cons, List.flatMap_nil, d_node (by decide), show (at_ d5 1).kids = [2] by decide, List.flatMap_cons, List.flatMap_nil, d_node (by decide), show (at_ d5 2).kids = [] by decide]
  rfl
theorem d_content : contentL d5 0 = [120] := by
  unfold contentL
  rw [d_order]
  decide
theorem d_byId : byId d5 ⟨#[107]⟩ = some 1 := by
  unfold byId
  rw [d_order]
  decide
theorem d_parent : parentE d5 2 = (1, 0) := by decide
end Go.Proofs.YthdenkkllpkplaaGreat.FS
end
section
/- The forests that treillagelaw07 shows. No program. -/
namespace Go.Proofs.YthdenkkllpkplaaGreat.FS
open Go.Proofs.YthdenkkllpkplaaGreat.WS
set_option linter.unusedVariables false
def dA : List Opn := [{ kind := 1, name := ⟨#[97]⟩ }, { kind := 4, id := 1 }]
def dB : List Opn := [{ kind := 4, id := 1, «to» := 1 }]
theorem zA1 : oneE newFo { kind := 1, name := ⟨#[97]⟩ } = 0 := by
  unfold oneE checks
  rw [if_pos (by decide), if_pos rfl]
  decide
theorem zA2 : oneE d1 { kind := 4, id := 1 } = 0 := by
  unfold oneE checks
  rw [if_pos (by decide), if_neg (by decide), if_neg (by decide), if_pos rfl]
  simp only [b1]
  decide
theorem bB : belowB d2 1 1 = true := (below_iff m2 (by decide)).2 ⟨by decide, 0, rfl⟩
theorem zB : oneE d2 { kind := 4, id := 1, «to» := 1 } = 72 := by
  unfold oneE checks
  rw [if_pos (by decide), if_neg (by decide), if_neg (by decide), if_pos rfl]
  simp only [bB]
  decide
theorem dA_all : allE newFo dA = 0 ∧ allN newFo dA = 2 ∧ allF newFo dA = d2 := by
  have h1 : allE newFo dA = 0 := by
    unfold dA
    rw [allE, if_pos zA1, e1, allE, if_pos zA2, e2, allE]
  refine ⟨h1, ?_, ?_⟩
  · unfold dA
    rw [allN, if_pos zA1, e1, allN, if_pos zA2, e2, allN]
  · unfold allF
    rw [if_pos h1]
    unfold dA
    rw [allG, if_pos zA1, e1, allG, if_pos zA2, e2, allG]
theorem dB_all : allE d2 dB = 72 ∧ allN d2 dB = 0 := by
  unfold dB
  rw [allE, allN, zB]
  decide
theorem dA_print : printF d2 0 = [60, 97, 62, 60, 47, 97, 62] := by
  have hf := may_family m2
  have hc := may_climbs m2
  unfold printF
  rw [if_pos ⟨m2, by decide⟩, printL_eq hf hc (by decide)]
  rw [show (at_ d2 0).kids = [1] by decide, List.flatMap_cons, List.flatMap_nil, printL_eq hf hc (by decide)]
  rw [show (at_ d2 1).kids = [] by decide, List.flatMap_nil]
  decide
end Go.Proofs.YthdenkkllpkplaaGreat.FS
end
