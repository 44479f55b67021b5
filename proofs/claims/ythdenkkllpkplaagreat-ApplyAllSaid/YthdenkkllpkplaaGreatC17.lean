/- Joined by a program: PlA, R7C. -/
import Derived.Laws.OwnMore
import Derived.Maps.AppendAt
import Derived.Deep.AppendLies
import Derived.Test.YthdenkkllpkplaaGreatC12
import Derived.Test.YthdenkkllpkplaaGreatC16
section
/- Attributes, or ints, that are appended onto a row of the call's own: any slice of them, nil or empty too. -/
namespace Go.Proofs.YthdenkkllpkplaaGreat.PlA
open Go Go.RowKit Go.Proofs.YthdenkkllpkplaaGreat.Seq Go.Proofs.YthdenkkllpkplaaGreat.WS Go.Proofs.YthdenkkllpkplaaGreat.FS Go.Proofs.YthdenkkllpkplaaGreat.Mem Go.Proofs.YthdenkkllpkplaaGreat.Rd Go.Proofs.YthdenkkllpkplaaGreat.Word Go.Proofs.YthdenkkllpkplaaGreat.Shapes Go.Proofs.YthdenkkllpkplaaGreat.FFam
set_option linter.unusedVariables false
set_option linter.unusedSimpArgs false
theorem run_append_none {P : Program} {w : World} (base : Nat) (t ty e : TypeId) (i : TypeInfo) (size c : Nat) (ht : P.underlying t = some (.slice e)) (hi : P.info? e = some i)
    (v : Value) (n : Nat) (xs : List Value) (hown : w.ownsRow base e size v n xs) : (Builtin.append_ #[t, t] ty #[v, .slice none 0 c]).run P w = .ok v w := by
  rcases hown.2 with ⟨rfl, rfl⟩ | ⟨g, cap, cur, rfl, _, _, hnc, _⟩
  · simp [Builtin.append_, run_underlying ht, sizeOf, typeInfo, hi, Builtin.lenOf, Builtin.firstCells]
  · simp [Builtin.append_, run_underlying ht, sizeOf, typeInfo, hi, Builtin.lenOf, Builtin.firstCells, hnc, storeCells]
theorem rd_none {α : Type} {E : Elem α} {sz B n c : Nat} {w : World} {l : List α} (h : RdL E sz B w (.slice none n c) l) : l = [] := by
  obtain ⟨A, c', e, _, _, h0⟩ := h
  injection e with e
  subst e
  cases l with
  | nil => rfl
  | cons y r => obtain ⟨b, o, e, _⟩ := h0 (by simp); cases e
/-- The same of elements of whatever size, whose cells are known. -/
theorem pl_any {P : Program} {ops : Array Oper} {rest : List Oper} {o : Oper} {a : Act} {Q : Exit → Act → World → Prop} (W : World) (hgd : o.guard = none) (s x : Operand) (t e : TypeId) (size bytes : Nat) (z : Value) (i0 : TypeInfo)
    (ho : o.op = .call { callee := .builtin .append, args := #[s, x], argTypes := #[t, t] }) (ht : P.underlying t = some (.slice e)) (hi : P.info? e = some i0) (hz0 : i0.zero = some z) (hz1 : i0.size = size) (hz2 : i0.bytes = bytes) (hzs : z.cells.size = size) (hsz : 0 < size)
    (B : Nat) (v : Value) (n : Nat) (xs : List Value) (A : Option Addr) (m c : Nat) (news : List Value) (hs : a.eval s = v) (hown : W.ownsRow B e size v n xs) (hx : a.eval x = .slice A m c) (hA : A = none → m = 0) (hl : news.length = m * size)
    (hnews : ∀ ad, A = some ad → ∀ j u, news[j]? = some u → W.cell? (ad.add j) = some u) (h1 : ∀ u ∈ news, u.oneCell' = true) (h63 : n + m ≤ maxLen) (hby : (n + m) * bytes ≤ 140737488355328) (hB : B ≤ W.heap.size)
    (h : ∀ v' w1, w1.ownsRow B e size v' (n + m) (xs ++ news) → W.grownBy w1 v.ownBlock → (v'.ownBlock = v.ownBlock ∨ v'.ownBlock = some W.heap.size) → wpList P ops Q rest (a.put o.dst v') w1) : wpList P ops Q (o :: rest) a W := by
  cases A with
  | some ad => exact wpList_append_own_at W hgd s x t ho B e i0 z size bytes ht hi hz0 hz1 hz2 hzs hsz v n xs hs hown ad m c news hx hl (hnews ad rfl) h1 h63 hby hB (fun v' w' h2 h3 _ h5 => h v' w' h2 h3 h5)
  | none =>
    have hm := hA rfl
    subst hm
    have hnl : news = [] := List.eq_nil_of_length_eq_zero (by omega)
    subst hnl
    refine wpList_plain hgd fun K hK => ?_
    have hrun := run_append_none (P := P) (w := W) B t o.type e i0 size c ht hi v n xs hown
    unfold Oper.wp
    simp [execOp, ho, resolve, invoke, builtin, hs, hx, hrun, Result.andThen]
    refine hK _ _ (h v W ?_ ?_ (.inl rfl))
    · show W.ownsRow B e size v (n + 0) (xs ++ [])
      rw [List.append_nil]
      exact hown
    · exact ⟨rfl, rfl, rfl, Nat.le_refl _, fun _ _ _ => rfl⟩
theorem int_cells {B : Nat} {w : World} {ad : Addr} {c : Nat} {l : List Int} (h : RdL (intE .i64) 1 B w (.slice (some ad) l.length c) l) : ∀ j u, (l.map (Value.int .i64))[j]? = some u → w.cell? (ad.add j) = some u := by
  intro j u hj
  have hlt : j < l.length := by simpa using (List.getElem?_eq_some_iff.1 hj).1
  obtain ⟨b, o, e, _, g0, _⟩ := intE_at h hlt
  injection e with e
  subst e
  rw [List.getElem?_map, List.getElem?_eq_getElem hlt] at hj
  simp only [Option.map_some, Option.some.injEq] at hj
  rw [Addr.add_lit, ← hj]
  exact g0
theorem ints_one (l : List Int) : ∀ u ∈ l.map (Value.int .i64), u.oneCell' = true := by
  intro u hu
  obtain ⟨z, _, rfl⟩ := List.mem_map.1 hu
  rfl
theorem attrs_one (l : List Av) : ∀ u ∈ Its.atCells l, u.oneCell' = true := by
  intro u hu
  unfold Its.atCells at hu
  obtain ⟨a, _, ha⟩ := List.mem_flatMap.1 hu
  simp only [List.mem_cons, List.not_mem_nil, or_false] at ha
  rcases ha with rfl | rfl <;> rfl
end Go.Proofs.YthdenkkllpkplaaGreat.PlA
end
section
/- treillageref07: copied. -/
namespace Go.Proofs.YthdenkkllpkplaaGreat.R7
open Go Go.RowKit Go.Proofs.YthdenkkllpkplaaGreat.Seq Go.Proofs.YthdenkkllpkplaaGreat.WS Go.Proofs.YthdenkkllpkplaaGreat.FS Go.Proofs.YthdenkkllpkplaaGreat.Mem Go.Proofs.YthdenkkllpkplaaGreat.Rd Go.Proofs.YthdenkkllpkplaaGreat.Shapes Go.Proofs.YthdenkkllpkplaaGreat.Word Go.Proofs.YthdenkkllpkplaaGreat.FFam Go.Proofs.YthdenkkllpkplaaGreat.OwnF Go.Proofs.YthdenkkllpkplaaGreat.PlA
set_option linter.unusedVariables false
set_option linter.unusedSimpArgs false
abbrev ndRow (n : Nd) (va vk : Value) : Array Value := #[.int .i64 n.kind, .string n.name, .string n.text, va, .int .i64 n.parent, vk]
theorem made_attrs (w : World) : (w.alloc (.cells #[] 131)).ownsRow w.heap.size 131 2 (.slice (some ⟨w.heap.size, 0, none⟩) 0 0) 0 [] := World.ownsRow_made w #[] 0 (Nat.le_refl _) (by simp [maxLen]) (by simp)
theorem made_nodes (w : World) : (w.alloc (.cells #[] 86)).ownsRow w.heap.size 86 6 (.slice (some ⟨w.heap.size, 0, none⟩) 0 0) 0 [] := World.ownsRow_made w #[] 0 (Nat.le_refl _) (by simp [maxLen]) (by simp)
theorem row_cells {W : World} {g : Nat} {n : Nd} {va vk : Value} {T : TypeId} (h : W.heap[g]? = some (.cells (ndRow n va vk) T (0, 0))) : W.cell? ⟨g, 0, none⟩ = some (.int .i64 n.kind) ∧ W.cell? ⟨g, 1, none⟩ = some (.string n.name) ∧ W.cell? ⟨g, 2, none⟩ = some (.string n.text) ∧ W.cell? ⟨g, 3, none⟩ = some va ∧ W.cell? ⟨g, 4, none⟩ = some (.int .i64 n.parent) ∧ W.cell? ⟨g, 5, none⟩ = some vk ∧ (∀ j, W.frozen? ⟨g, j, none⟩ = false) :=
  ⟨(cell_of_row _ _ _ _ _ _ h).trans rfl, (cell_of_row _ _ _ _ _ _ h).trans rfl, (cell_of_row _ _ _ _ _ _ h).trans rfl, (cell_of_row _ _ _ _ _ _ h).trans rfl, (cell_of_row _ _ _ _ _ _ h).trans rfl, (cell_of_row _ _ _ _ _ _ h).trans rfl, free_of h⟩
/-- A node in a box behind an append onto a row that is made behind it, and the store of that row into field j. -/
structure Boxed (gn : Nat) (n : Nd) (va vk : Value) (wo W : World) : Prop where
  row : W.heap[gn]? = some (.cells (ndRow n va vk) 86 (0, 0))
  below : Below wo.heap.size wo W
  at_ : gn = wo.heap.size
theorem boxed_attrs {gn : Nat} {n : Nd} {va vk : Value} {wo W w6 : World} {va' : Value} {l : List Av} (h : Boxed gn n va vk wo W) (hown : w6.ownsRow (gn + 1) 131 2 va' l.length (Its.atCells l)) (hgr : (W.alloc (.cells #[] 131)).grownBy w6 (some W.heap.size)) :
    w6.heap[gn]? = some (.cells (ndRow n va vk) 86 (0, 0)) ∧ Boxed gn n va' vk wo (w6.setCell ⟨gn, 3, none⟩ va') ∧ (w6.setCell ⟨gn, 3, none⟩ va').ownsRow (gn + 1) 131 2 va' l.length (Its.atCells l) := by
  have hlt := lt_heap h.row
  have e6 : w6.heap[gn]? = some (.cells (ndRow n va vk) 86 (0, 0)) := (hgr.block gn (by simp; omega) (fun e => by injection e with e; omega)).trans (heap_old h.row)
  have hb6 : Below wo.heap.size wo w6 := (h.below.alloc h.below.size _).trans ((Off.grown (Y := fun b => wo.heap.size ≤ b) hgr (fun r hr => by injection hr with hr; have := h.below.size; omega)).toBelow (by simp; have := h.below.size; omega) (fun b hb => hb))
  refine ⟨e6, ⟨(Repl.setCell_row e6).trans rfl, hb6.setCell (by rw [h.at_]; exact Nat.le_refl _) _, h.at_⟩, own_keep hown (fun g hg => Below.heap_setCell _ _ _ _ (by have := (hown.lt g hg).1; show g ≠ gn; omega))⟩
theorem boxed_ints {gn : Nat} {n : Nd} {va vk : Value} {wo W w6 : World} {vk' : Value} {l : List Int} {la : List Av} (h : Boxed gn n va vk wo W) (ha : W.ownsRow (gn + 1) 131 2 va la.length (Its.atCells la)) (hown : w6.ownsRow W.heap.size 3 1 vk' l.length (l.map (Value.int .i64))) (hgr : (W.alloc (.cells #[] 3)).grownBy w6 (some W.heap.size)) :
    w6.heap[gn]? = some (.cells (ndRow n va vk) 86 (0, 0)) ∧ Boxed gn n va vk' wo (w6.setCell ⟨gn, 5, none⟩ vk') ∧ (w6.setCell ⟨gn, 5, none⟩ vk').ownsRow W.heap.size 3 1 vk' l.length (l.map (Value.int .i64)) ∧ (w6.setCell ⟨gn, 5, none⟩ vk').ownsRow (gn + 1) 131 2 va la.length (Its.atCells la) := by
  have hlt := lt_heap h.row
  have e6 : w6.heap[gn]? = some (.cells (ndRow n va vk) 86 (0, 0)) := (hgr.block gn (by simp; omega) (fun e => by injection e with e; omega)).trans (heap_old h.row)
  have hb6 : Below wo.heap.size wo w6 := (h.below.alloc h.below.size _).trans ((Off.grown (Y := fun b => wo.heap.size ≤ b) hgr (fun r hr => by injection hr with hr; have := h.below.size; omega)).toBelow (by simp; have := h.below.size; omega) (fun b hb => hb))
  have ha6 : w6.ownsRow (gn + 1) 131 2 va la.length (Its.atCells la) := own_keep ha (fun g hg => by
    have hg2 := (ha.lt g hg).2
    exact (hgr.block g (by simp; omega) (fun e => by injection e with e; omega)).trans (Below.heap_alloc _ _ _ hg2))
  refine ⟨e6, ⟨(Repl.setCell_row e6).trans rfl, hb6.setCell (by rw [h.at_]; exact Nat.le_refl _) _, h.at_⟩, own_keep hown (fun g hg => Below.heap_setCell _ _ _ _ (by have := (hown.lt g hg).1; show g ≠ gn; omega)), own_keep ha6 (fun g hg => Below.heap_setCell _ _ _ _ (by have := (ha6.lt g hg).1; show g ≠ gn; omega))⟩
/-- The boxed node joins the row of nodes. -/
theorem boxed_more {w wo W w8 : World} {fs : Fo} {gn kb : Nat} {n : Nd} {va vk : Value} {AO : Option Addr} {nO cO : Nat} {xsO : List Value} {v8 : Value}
    (hnd : ∀ i (hi : i < fs.length), nodeS (fun b => (Value.slice AO nO cO).ownBlock ≠ some b) wo ((xsO.drop (i * 6)).take 6) fs[i]) (hro : wo.ownsRow w.heap.size 86 6 (.slice AO nO cO) fs.length xsO) (h : Boxed gn n va vk wo W)
    (ha : W.ownsRow (gn + 1) 131 2 va n.attrs.length (Its.atCells n.attrs)) (hkd : W.ownsRow kb 3 1 vk n.kids.length (n.kids.map (Value.int .i64))) (hkb : gn < kb)
    (hsa : ∀ a ∈ n.attrs, a.name.size ≤ maxLen ∧ a.value.size ≤ maxLen) (hsk : ∀ y ∈ n.kids, (Lit.int .i64 y).wf = true) (hsm : n.name.size ≤ maxLen ∧ n.text.size ≤ maxLen ∧ (Lit.int .i64 n.kind).wf = true ∧ (Lit.int .i64 n.parent).wf = true)
    (hown : w8.ownsRow w.heap.size 86 6 v8 (fs.length + 1) (xsO ++ (ndRow n va vk).toList)) (hgr : (W.alloc (.cells (ndRow n va vk) 86)).grownBy w8 (Value.slice AO nO cO).ownBlock)
    (hat : v8.ownBlock = (Value.slice AO nO cO).ownBlock ∨ v8.ownBlock = some (W.alloc (.cells (ndRow n va vk) 86)).heap.size) : OwnF 86 w.heap.size w8 v8 (fs ++ [n]) := by
  have hal : ∀ b, b < W.heap.size → (W.alloc (.cells (ndRow n va vk) 86)).heap[b]? = W.heap[b]? := fun b hb => Below.heap_alloc _ _ _ hb
  have hro2 : (W.alloc (.cells (ndRow n va vk) 86)).ownsRow w.heap.size 86 6 (.slice AO nO cO) fs.length xsO := own_keep hro (fun g hg => by
    have := (hro.lt g hg).2
    have := h.below.size
    exact (hal g (by omega)).trans (h.below.block g (by omega)))
  refine OwnF.more (w := W.alloc (.cells (ndRow n va vk) 86)) (f := fs) (g := [n]) hro2 (fun i hi => (hnd i hi).keep (fun b _ hb => (hal b (Nat.lt_of_lt_of_le hb h.below.size)).trans (h.below.block b hb)) (by have := h.below.size; simp; omega) (fun _ x _ => x)) (by simp) (fun i hi => ?_) hown hgr hat
  obtain rfl : i = 0 := by simp at hi; omega
  refine ⟨va, vk, rfl, ?_, ?_, hsm⟩
  · refine (Its.rows_attrs (S := fun b => (Value.slice AO nO cO).ownBlock ≠ some b) ha (fun g hg e => ?_) hsa).keep (fun b _ hb => hal b hb) (by simp) (fun _ x _ => x)
    have h1 := (ha.lt g hg).1
    have h2 := (hro.lt g e).2
    have h3 := h.at_
    omega
  · refine (RdS.of_own (E := intS) (S := fun b => (Value.slice AO nO cO).ownBlock ≠ some b) hkd rfl (fun g hg e => ?_) (fun i hi => ⟨?_, hsk _ (List.getElem_mem _)⟩)).keep (fun b _ hb => hal b hb) (by simp) (fun _ x _ => x)
    · have h1 := (hkd.lt g hg).1
      have h2 := (hro.lt g e).2
      have h3 := h.at_
      omega
    · rw [Nat.mul_one, List.drop_eq_getElem_cons (by simpa using hi)]
      simp
theorem kids_wf' {B : Nat} {w : World} {v : Value} {l : List Int} (h : RdL (intE .i64) 1 B w v l) : ∀ y ∈ l, (Lit.int .i64 y).wf = true := by
  intro y hy
  obtain ⟨i, hi, rfl⟩ := List.mem_iff_getElem.1 hy
  obtain ⟨A, c, rfl, _, _, h'⟩ := h.form
  obtain ⟨b, o, _, _, _, hw⟩ := intE_at h' hi
  exact hw
set_option maxRecDepth 100000 in
set_option maxHeartbeats 8000000 in
theorem copied_calls (w : World) (v : Value) (f : Fo) (h : RdF w.heap.size w v f) (hl70 : f.length ≤ 1000) (ha12 : ∀ n ∈ f, n.attrs.length ≤ 1000) (hk12 : ∀ n ∈ f, n.kids.length ≤ 1000) :
    Calls Tryz.prog 132 #[v] w fun e w' => ∃ u, e = .returned u ∧ OwnF 86 w.heap.size w' u f ∧ Below w.heap.size w w' := by
  obtain ⟨A0, c0, rfl, hl0, hc0, h'⟩ := h.form
  simp only [maxLen] at hc0
  obtain ⟨i0, hi0, hz0, hz1, hz2⟩ := info_parts Its.info_rnode
  obtain ⟨i1, hi1, hy0, hy1, hy2⟩ := info_parts Its.info_rattr
  obtain ⟨i2, hi2, hx0, hx1, hx2⟩ := info_parts info_int
  have Hh := Lib.hid h'; have Ha := Lib.hid ha12; have Hk := Lib.hid hk12
  clear h h' ha12 hk12
  go_enter Tryz.func132, Tryz.ntmps132
  go_wp2_with fail
  have hO0 : OwnF 86 w.heap.size (w.alloc (.cells #[] 86)) (.slice (some ⟨w.heap.size, 0, none⟩) 0 0) (f.take 0) := ⟨[], made_nodes w, fun i hi => absurd hi (by simp)⟩
  have HO0 := Lib.hid hO0
  clear hO0
  go_loopw [3, 4] (fun u i wr => ∃ k : Nat, k ≤ f.length ∧ i = .int .i64 k ∧ Hid (OwnF 86 w.heap.size wr u (f.take k)) ∧ Below w.heap.size w wr) (fun _ i _ => f.length - (intOf i).toNat)
  case atStart => exact ⟨0, Nat.zero_le _, rfl, HO0, (Below.refl _ _).alloc (Nat.le_refl _) _⟩
  case round =>
    obtain ⟨k, hk, rfl, hO, hb⟩ := hrel
    obtain ⟨xsO, hrowO, hndO⟩ := hO.out
    obtain ⟨AO, nO, cO, rfl⟩ := Build.own_form hrowO
    have HrowO := Lib.hid hrowO; have HndO := Lib.hid hndO
    clear hrowO hndO
    by_cases hlt : k < f.length
    · obtain ⟨b, o, Aa, ca, Ak, ck, rfl, hbl, g0, g1, g2, g3, g4, g5, ra, rk, la, lca, lk, lck, m1, m2, m3, m4⟩ := node_at Hh.out hlt
      have han := Ha.out f[k] (List.getElem_mem _)
      have hkn := Hk.out f[k] (List.getElem_mem _)
      have htk : f.take (k + 1) = f.take k ++ [f[k]] := List.take_succ_eq_append_getElem hlt
      generalize f[k] = n at *
      have p0 := cell_below hb g0 hbl
      have p1 := cell_below hb g1 hbl
      have p2 := cell_below hb g2 hbl
      have p3 := cell_below hb g3 hbl
      have p4 := cell_below hb g4 hbl
      have p5 := cell_below hb g5 hbl
      have hsm : n.name.size ≤ maxLen ∧ n.text.size ≤ maxLen ∧ (Lit.int .i64 n.kind).wf = true ∧ (Lit.int .i64 n.parent).wf = true := ⟨m1, m2, m3, m4⟩
      have hsa := Its.attrs_small ra
      have hsk := kids_wf' rk
      simp only [maxLen] at lca lck
      obtain ⟨wo, rfl⟩ : ∃ wo : World, wo = wr := ⟨_, rfl⟩
      have hra := fun w' (hb' : Below wo.heap.size wo w') => ra.below attrE_keeps (w' := w') (bthen hb hb') (Nat.le_refl _)
      have hrk := fun w' (hb' : Below wo.heap.size wo w') => rk.below (intE_keeps _) (w' := w') (bthen hb hb') (Nat.le_refl _)
      have Hra := Lib.hid hra; have Hrk := Lib.hid hrk; have Htk := Lib.hid htk; have Hb := Lib.hid hb; have Hsm := Lib.hid hsm; have Hsa := Lib.hid hsa; have Hsk := Lib.hid hsk
      clear g0 g1 g2 g3 g4 g5 ra rk htk hb m1 m2 m3 m4 hra hrk hsm hsa hsk
      obtain ⟨kd, nm, tx, ats, par, kks⟩ := n
      simp only at *
      go_upto_region 6 with fail
      obtain ⟨W5, hW5⟩ : ∃ W5, wo.alloc (.cells #[.int .i64 kd, .string nm, .string tx, .slice Aa ats.length ca, .int .i64 par, .slice Ak kks.length ck] 86) = W5 := ⟨_, rfl⟩
      obtain ⟨gn, hgn⟩ : ∃ gn, gn = wo.heap.size := ⟨_, rfl⟩
      have hB5 : Boxed gn ⟨kd, nm, tx, ats, par, kks⟩ (.slice Aa ats.length ca) (.slice Ak kks.length ck) wo W5 := ⟨by rw [← hW5]; exact heap_new hgn, by rw [← hW5]; exact (Below.refl _ _).alloc (Nat.le_refl _) _, hgn⟩
      have hs5 : W5.heap.size = gn + 1 := by rw [← hW5, hgn]; simp
      rw [hW5, ← hgn]
      have HB5 := Lib.hid hB5
      clear hW5 p0 p1 p2 p3 p4 p5
      have x3 : (W5.alloc (.cells #[] 131)).cell? ⟨gn, 3, none⟩ = some (.slice Aa ats.length ca) := cell_alloc (row_cells hB5.row).2.2.2.1 _
      have y3 := (row_cells hB5.row).2.2.2.1
      have hma : (W5.alloc (.cells #[] 131)).ownsRow (gn + 1) 131 2 (.slice (some ⟨W5.heap.size, 0, none⟩) 0 0) 0 [] := by
        have := made_attrs W5
        rw [hs5] at this ⊢
        exact this
      have hAn : Aa = none → ats.length = 0 := fun e => by
        subst e
        rw [rd_none (Hra.out wo (Below.refl _ _))]; rfl
      have hcn : ∀ ad, Aa = some ad → ∀ j u, (Its.atCells ats)[j]? = some u → (W5.alloc (.cells #[] 131)).cell? (ad.add j) = some u := fun ad e j u hj => by
        subst e
        exact Work.attr_cells (Hra.out _ (hB5.below.alloc hB5.below.size _)) j u hj
      have Hma := Lib.hid hma; have HAn := Lib.hid hAn; have Hcn := Lib.hid hcn; have Hs5 := Lib.hid hs5
      clear hma hAn hcn hB5 hgn hs5
      go_upto_region 7 with (at_builtin; go_loud (refine pl_any (W5.alloc (.cells #[] 131)) rfl _ _ 84 131 2 32 _ i1 rfl Tryz.underlying84 hi1 hy0 hy1 hy2 rfl (by decide) (gn + 1) (.slice (some ⟨W5.heap.size, 0, none⟩) 0 0) 0 [] Aa ats.length ca (Its.atCells ats) rfl Hma.out rfl HAn.out (Its.atCells_length ats) Hcn.out (attrs_one ats) (by simp only [maxLen]; omega) (by omega) (by simp; have := Hs5.out; omega) ?_; intro va w6 hown6 hgr6 hat6; rw [Nat.zero_add, List.nil_append] at hown6; obtain ⟨A6, n6, c6, rfl⟩ := Build.own_form hown6; obtain ⟨e6, hB6, ho6⟩ := boxed_attrs HB5.out hown6 hgr6; have k3 : w6.cell? ⟨gn, 3, none⟩ = some (.slice Aa ats.length ca) := (row_cells e6).2.2.2.1; have k3f := (row_cells e6).2.2.2.2.2.2 3; have HB6 := Lib.hid hB6; have Ho6 := Lib.hid ho6; clear e6 hB6 ho6 hown6 hgr6 hat6))
      clear y3 x3 Hma HAn Hcn Hra k3 k3f Hs5 HB5
      obtain ⟨W6, hW6⟩ : ∃ W6, w6.setCell ⟨gn, 3, none⟩ (.slice A6 n6 c6) = W6 := ⟨_, rfl⟩
      rw [hW6] at HB6 Ho6 ⊢
      clear hW6
      have x5 : (W6.alloc (.cells #[] 3)).cell? ⟨gn, 5, none⟩ = some (.slice Ak kks.length ck) := cell_alloc (row_cells HB6.out.row).2.2.2.2.2.1 _
      have y5 := (row_cells HB6.out.row).2.2.2.2.2.1
      have hAn : Ak = none → kks.length = 0 := fun e => by
        subst e
        rw [rd_none (Hrk.out wo (Below.refl _ _))]; rfl
      have hcn : ∀ ad, Ak = some ad → ∀ j u, (kks.map (Value.int .i64))[j]? = some u → (W6.alloc (.cells #[] 3)).cell? (ad.add j) = some u := fun ad e j u hj => by
        subst e
        exact int_cells (Hrk.out _ (HB6.out.below.alloc HB6.out.below.size _)) j u hj
      have HAn := Lib.hid hAn; have Hcn := Lib.hid hcn
      clear hAn hcn
      go_upto_region 8 with (at_builtin; go_loud (refine pl_any (W6.alloc (.cells #[] 3)) rfl _ _ 53 3 1 8 _ i2 rfl Tryz.underlying53 hi2 hx0 hx1 hx2 rfl (by decide) W6.heap.size (.slice (some ⟨W6.heap.size, 0, none⟩) 0 0) 0 [] Ak kks.length ck (kks.map (Value.int .i64)) rfl (made_ints W6) rfl HAn.out (by rw [List.length_map, Nat.mul_one]) Hcn.out (ints_one kks) (by simp only [maxLen]; omega) (by omega) (by simp) ?_; intro vk w7 hown7 hgr7 hat7; rw [Nat.zero_add, List.nil_append] at hown7; obtain ⟨A7, n7, c7, rfl⟩ := Build.own_form hown7; obtain ⟨e7, hB7, ho7, ha7⟩ := boxed_ints HB6.out Ho6.out hown7 hgr7; have k5 : w7.cell? ⟨gn, 5, none⟩ = some (.slice Ak kks.length ck) := (row_cells e7).2.2.2.2.2.1; have k5f := (row_cells e7).2.2.2.2.2.2 5; have HB7 := Lib.hid hB7; have Ho7 := Lib.hid ho7; have Ha7 := Lib.hid ha7; clear e7 hB7 ho7 ha7 hown7 hgr7 hat7))
      clear y5 x5 HAn Hcn Hrk k5 k5f
      obtain ⟨W7, hW7⟩ : ∃ W7, w7.setCell ⟨gn, 5, none⟩ (.slice A7 n7 c7) = W7 := ⟨_, rfl⟩
      rw [hW7] at HB7 Ho7 Ha7 ⊢
      clear hW7
      obtain ⟨z0, z1, z2, z3, z4, z5, zf⟩ := row_cells HB7.out.row
      simp only at z0 z1 z2 z4
      have hkb : gn < W6.heap.size := lt_heap HB6.out.row
      have hkl : (f.take k).length = k := by rw [List.length_take]; omega
      have hro : W7.ownsRow w.heap.size 86 6 (.slice AO nO cO) k xsO := by
        have := own_keep HrowO.out (w' := W7) (fun g hg => HB7.out.below.block g (HrowO.out.lt g hg).2)
        rwa [hkl] at this
      have hro2 := own_keep hro (w' := W7.alloc (.cells #[.int .i64 kd, .string nm, .string tx, .slice A6 n6 c6, .int .i64 par, .slice A7 n7 c7] 86)) (fun g hg => Below.heap_alloc _ _ _ (hro.lt g hg).2)
      have Hro2 := Lib.hid hro2
      have hsz : w.heap.size ≤ W7.heap.size := (bthen Hb.out HB7.out.below).size
      clear hro hro2 HB6 Ho6
      go_wp2_with (at_builtin; go_loud (refine wpList_append_own_at (W7.alloc (.cells #[.int .i64 kd, .string nm, .string tx, .slice A6 n6 c6, .int .i64 par, .slice A7 n7 c7] 86)) rfl _ _ 36 rfl w.heap.size 86 i0 _ 6 96 Tryz.underlying36 hi0 hz0 hz1 hz2 rfl (by decide) (.slice AO nO cO) k xsO rfl Hro2.out ⟨W7.heap.size, 0, none⟩ 1 1 [.int .i64 kd, .string nm, .string tx, .slice A6 n6 c6, .int .i64 par, .slice A7 n7 c7] rfl rfl (World.news_of_block (cs := #[.int .i64 kd, .string nm, .string tx, .slice A6 n6 c6, .int .i64 par, .slice A7 n7 c7]) (t := 86) (fr := (0, 0)) (heap_alloc_new W7 _)) (by simp [Value.oneCell']) (by simp only [maxLen]; omega) (by omega) (by simp; omega) ?_; intro v8 w8 hown8 hgrow8 hnil8 hat8; have Hown8 := Lib.hid hown8; have Hgrow8 := Lib.hid hgrow8; have Hat8 := Lib.hid hat8; clear hown8 hgrow8 hnil8 hat8))
      go_roundw
      case rel =>
        refine ⟨k + 1, by omega, by go_num, Lib.hid ?_, ?_⟩
        · rw [Htk.out]
          exact boxed_more (n := ⟨kd, nm, tx, ats, par, kks⟩) HndO.out HrowO.out HB7.out Ha7.out Ho7.out hkb Hsa.out Hsk.out Hsm.out (by rw [hkl]; exact Hown8.out) Hgrow8.out Hat8.out
        · exact ((bthen Hb.out HB7.out.below).alloc hsz _).trans ((Off.grown (Y := fun b => w.heap.size ≤ b) Hgrow8.out (fun r hr => (HrowO.out.lt r hr).1)).toBelow (by simp; omega) (fun b hb => hb))
      case measure => simp [intOf]; omega
    · obtain rfl : k = f.length := by omega
      have hfin := hO.out
      rw [List.take_length] at hfin
      have Hfin := Lib.hid hfin; have Hb := Lib.hid hb
      clear hfin hb hlt
      go_wp2_with fail
      go_ret
      exact ⟨_, rfl, Hfin.out, Hb.out⟩
end Go.Proofs.YthdenkkllpkplaaGreat.R7
end
