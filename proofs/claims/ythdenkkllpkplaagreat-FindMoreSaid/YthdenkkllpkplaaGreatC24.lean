/- Joined by a program: FnN, PlA, FnT, FnR, R2T, R2F. -/
import Derived.Laws.OwnMore
import Derived.Maps.AppendAt
import Derived.Test.YthdenkkllpkplaaGreatC23
import Derived.Test.YthdenkkllpkplaaGreatC17
import Derived.Test.YthdenkkllpkplaaGreatC22
import Derived.Test.YthdenkkllpkplaaGreatC12
import Derived.Test.YthdenkkllpkplaaGreatC01
import Derived.Test.YthdenkkllpkplaaGreatC08
import Derived.Test.YthdenkkllpkplaaGreatC09
import Derived.Test.YthdenkkllpkplaaGreatC02
section
/- A node of a forest, as Fits is asked of it. -/
namespace Go.Proofs.YthdenkkllpkplaaGreat.Fi
open Go Go.RowKit Go.Proofs.YthdenkkllpkplaaGreat.Seq Go.Proofs.YthdenkkllpkplaaGreat.WS Go.Proofs.YthdenkkllpkplaaGreat.FS Go.Proofs.YthdenkkllpkplaaGreat.Mem Go.Proofs.YthdenkkllpkplaaGreat.Rd Go.Proofs.YthdenkkllpkplaaGreat.Shapes Go.Proofs.YthdenkkllpkplaaGreat.Word Go.Proofs.YthdenkkllpkplaaGreat.FFam Go.Proofs.YthdenkkllpkplaaGreat.Fn
set_option linter.unusedVariables false
set_option linter.unusedSimpArgs false
/-- The six cells of a node. -/
def Cells6 (w : World) (b j : Nat) (n : Nd) (va vk : Value) : Prop :=
  w.cell? ⟨b, j, none⟩ = some (.int .i64 n.kind) ∧ w.cell? ⟨b, j + 1, none⟩ = some (.string n.name) ∧ w.cell? ⟨b, j + 2, none⟩ = some (.string n.text) ∧ w.cell? ⟨b, j + 3, none⟩ = some va ∧ w.cell? ⟨b, j + 4, none⟩ = some (.int .i64 n.parent) ∧ w.cell? ⟨b, j + 5, none⟩ = some vk
theorem slice_some {B : Nat} {w : World} {v : Value} {f : Fo} (h : RdF B w v f) (h0 : 0 < f.length) : ∃ b o c, v = .slice (some ⟨b, o, none⟩) f.length c ∧ f.length ≤ c ∧ c ≤ maxLen := by
  obtain ⟨A, c, rfl, h1, h2, h'⟩ := h.form
  obtain ⟨b, o, _, e, _⟩ := h'.at_ h0
  exact ⟨b, o, c, by rw [e], h1, h2⟩
theorem fits_at {w : World} {b o c : Nat} {f : Fo} (h : RdF w.heap.size w (.slice (some ⟨b, o, none⟩) f.length c) f) (hsm : ∀ n ∈ f, Sm n) {k : Nat} (hk : k < f.length) :
    ∃ va vk, (∃ A n c, va = .slice A n c) ∧ (∃ A n c, vk = .slice A n c) ∧ (∀ w', Below w.heap.size w w' → Cells6 w' b (o + k * 6) (at_ f (k : Int)) va vk) ∧
      ∀ w', Below w.heap.size w w' → ∀ vc cs, RdL testE 3 w'.heap.size w' vc cs → SmC cs → Calls Tryz.prog 45 #[ndV (at_ f (k : Int)) va vk, vc] w' (SoPost (fitsC (at_ f (k : Int)) cs) w') := by
  obtain ⟨b2, o2, Aa, ca, Ak, ck, e, hlt, n0, n1, n2, n3, n4, n5, ra, rk, _⟩ := node_at h hk
  injection e with e
  injection e with e1 e2 _
  subst e1 e2
  rw [atN hk]
  refine ⟨_, _, ⟨_, _, _, rfl⟩, ⟨_, _, _, rfl⟩, fun w' hb => ⟨cell_grow hb n0, cell_grow hb n1, cell_grow hb n2, cell_grow hb n3, cell_grow hb n4, cell_grow hb n5⟩, fun w' hb vc cs hc hs => ?_⟩
  exact Fits_calls w' f[k] _ _ vc cs ((ra.below attrE_keeps (w' := w') hb (Nat.le_refl _)).mono attrE_keeps hb.size) hc (hsm _ (List.getElem_mem hk)) hs
end Go.Proofs.YthdenkkllpkplaaGreat.Fi
end
section
/- Attributes, or ints, that are appended onto a row of the call's own: any slice of them, nil or empty too. -/
namespace Go.Proofs.YthdenkkllpkplaaGreat.PlA
open Go Go.RowKit Go.Proofs.YthdenkkllpkplaaGreat.Seq Go.Proofs.YthdenkkllpkplaaGreat.WS Go.Proofs.YthdenkkllpkplaaGreat.FS Go.Proofs.YthdenkkllpkplaaGreat.Mem Go.Proofs.YthdenkkllpkplaaGreat.Rd Go.Proofs.YthdenkkllpkplaaGreat.Word Go.Proofs.YthdenkkllpkplaaGreat.Shapes Go.Proofs.YthdenkkllpkplaaGreat.FFam
set_option linter.unusedVariables false
set_option linter.unusedSimpArgs false
theorem run_append_none {P : Program} {w : World} (base : Nat) (t ty e : TypeId) (i : TypeInfo) (size c : Nat) (ht : P.underlying t = some (.slice e)) (hi : P.info? e = some i)
    (v : Value) (n : Nat) (xs : List Value) (hown : w.ownsRow base e size v n xs) : (Builtin.append_ #[t, t] ty #[v, .slice none 0 c]).run P w = .ok v w := by
  rcases hown.2 with ⟨rfl, rfl⟩ | ⟨g, cap, cur, rfl, _, _, hnc, _⟩
  · simp [Builtin.append_, run_underlying ht, sizeOf, typeInfo, hi, Builtin.lenOf, Builtin.firstCells]
  · simp [Builtin.append_, run_underlying ht, sizeOf, typeInfo, hi, Builtin.lenOf, Builtin.firstCells, hnc, storeCells]
theorem rd_none {α : Type} {E : Elem α} {sz B n c : Nat} {w : World} {l : List α} (h : RdL E sz B w (.slice none n c) l) : l = [] := by
  obtain ⟨A, c', e, _, _, h0⟩ := h
  injection e with e
  subst e
  cases l with
  | nil => rfl
  | cons y r => obtain ⟨b, o, e, _⟩ := h0 (by simp); cases e
/-- The same of elements of whatever size, whose cells are known. -/
theorem pl_any {P : Program} {ops : Array Oper} {rest : List Oper} {o : Oper} {a : Act} {Q : Exit → Act → World → Prop} (W : World) (hgd : o.guard = none) (s x : Operand) (t e : TypeId) (size bytes : Nat) (z : Value) (i0 : TypeInfo)
    (ho : o.op = .call { callee := .builtin .append, args := #[s, x], argTypes := #[t, t] }) (ht : P.underlying t = some (.slice e)) (hi : P.info? e = some i0) (hz0 : i0.zero = some z) (hz1 : i0.size = size) (hz2 : i0.bytes = bytes) (hzs : z.cells.size = size) (hsz : 0 < size)
    (B : Nat) (v : Value) (n : Nat) (xs : List Value) (A : Option Addr) (m c : Nat) (news : List Value) (hs : a.eval s = v) (hown : W.ownsRow B e size v n xs) (hx : a.eval x = .slice A m c) (hA : A = none → m = 0) (hl : news.length = m * size)
    (hnews : ∀ ad, A = some ad → ∀ j u, news[j]? = some u → W.cell? (ad.add j) = some u) (h1 : ∀ u ∈ news, u.oneCell' = true) (h63 : n + m ≤ maxLen) (hby : (n + m) * bytes ≤ 140737488355328) (hB : B ≤ W.heap.size)
    (h : ∀ v' w1, w1.ownsRow B e size v' (n + m) (xs ++ news) → W.grownBy w1 v.ownBlock → (v'.ownBlock = v.ownBlock ∨ v'.ownBlock = some W.heap.size) → wpList P ops Q rest (a.put o.dst v') w1) : wpList P ops Q (o :: rest) a W := by
  cases A with
  | some ad => exact wpList_append_own_at W hgd s x t ho B e i0 z size bytes ht hi hz0 hz1 hz2 hzs hsz v n xs hs hown ad m c news hx hl (hnews ad rfl) h1 h63 hby hB (fun v' w' h2 h3 _ h5 => h v' w' h2 h3 h5)
  | none =>
    have hm := hA rfl
    subst hm
    have hnl : news = [] := List.eq_nil_of_length_eq_zero (by omega)
    subst hnl
    refine wpList_plain hgd fun K hK => ?_
    have hrun := run_append_none (P := P) (w := W) B t o.type e i0 size c ht hi v n xs hown
    unfold Oper.wp
    simp [execOp, ho, resolve, invoke, builtin, hs, hx, hrun, Result.andThen]
    refine hK _ _ (h v W ?_ ?_ (.inl rfl))
    · show W.ownsRow B e size v (n + 0) (xs ++ [])
      rw [List.append_nil]
      exact hown
    · exact ⟨rfl, rfl, rfl, Nat.le_refl _, fun _ _ _ => rfl⟩
theorem int_cells {B : Nat} {w : World} {ad : Addr} {c : Nat} {l : List Int} (h : RdL (intE .i64) 1 B w (.slice (some ad) l.length c) l) : ∀ j u, (l.map (Value.int .i64))[j]? = some u → w.cell? (ad.add j) = some u := by
  intro j u hj
  have hlt : j < l.length := by simpa using (List.getElem?_eq_some_iff.1 hj).1
  obtain ⟨b, o, e, _, g0, _⟩ := intE_at h hlt
  injection e with e
  subst e
  rw [List.getElem?_map, List.getElem?_eq_getElem hlt] at hj
  simp only [Option.map_some, Option.some.injEq] at hj
  rw [Addr.add_lit, ← hj]
  exact g0
theorem ints_one (l : List Int) : ∀ u ∈ l.map (Value.int .i64), u.oneCell' = true := by
  intro u hu
  obtain ⟨z, _, rfl⟩ := List.mem_map.1 hu
  rfl
theorem attrs_one (l : List Av) : ∀ u ∈ Its.atCells l, u.oneCell' = true := by
  intro u hu
  unfold Its.atCells at hu
  obtain ⟨a, _, ha⟩ := List.mem_flatMap.1 hu
  simp only [List.mem_cons, List.not_mem_nil, or_false] at ha
  rcases ha with rfl | rfl <;> rfl
end Go.Proofs.YthdenkkllpkplaaGreat.PlA
end
section
/- Rows of tests in memory: cells, and an append of any of them in a region that draws its order. -/
namespace Go.Proofs.YthdenkkllpkplaaGreat.Fi
open Go Go.RowKit Go.Proofs.YthdenkkllpkplaaGreat.Seq Go.Proofs.YthdenkkllpkplaaGreat.WS Go.Proofs.YthdenkkllpkplaaGreat.FS Go.Proofs.YthdenkkllpkplaaGreat.Mem Go.Proofs.YthdenkkllpkplaaGreat.Rd Go.Proofs.YthdenkkllpkplaaGreat.Shapes Go.Proofs.YthdenkkllpkplaaGreat.Word Go.Proofs.YthdenkkllpkplaaGreat.FFam Go.Proofs.YthdenkkllpkplaaGreat.Fn
set_option linter.unusedVariables false
set_option linter.unusedSimpArgs false
def tsL (l : List Tst) : List Value := l.flatMap (fun t => [.int .i64 t.kind, .string t.name, .string t.value])
theorem tsL_snoc (l : List Tst) (t : Tst) : tsL (l ++ [t]) = tsL l ++ [.int .i64 t.kind, .string t.name, .string t.value] := by unfold tsL; rw [List.flatMap_append]; simp
theorem tsL_length : ∀ l : List Tst, (tsL l).length = l.length * 3
  | [] => rfl
  | t :: l => by
    have := tsL_length l
    unfold tsL at this ⊢
    rw [List.flatMap_cons, List.length_append, this]
    simp
    omega
theorem tsL_at : ∀ {l : List Tst} {i : Nat} (h : i < l.length), ((tsL l).drop (i * 3)).take 3 = [.int .i64 l[i].kind, .string l[i].name, .string l[i].value]
  | t :: l, 0, _ => rfl
  | t :: l, i + 1, h => by
    have := tsL_at (l := l) (i := i) (by simpa using h)
    unfold tsL at this ⊢
    rw [List.flatMap_cons, show (i + 1) * 3 = i * 3 + 1 + 1 + 1 by omega]
    simpa using this
theorem tsL_one (l : List Tst) : ∀ u ∈ tsL l, u.oneCell' = true := by
  intro u hu
  unfold tsL at hu
  obtain ⟨a, _, ha⟩ := List.mem_flatMap.1 hu
  simp only [List.mem_cons, List.not_mem_nil, or_false] at ha
  rcases ha with rfl | rfl | rfl <;> rfl
theorem ts_cellsL {B : Nat} {w : World} {a : Addr} {c : Nat} {l : List Tst} (h : RdL testE 3 B w (.slice (some a) l.length c) l) : ∀ j u, (tsL l)[j]? = some u → w.cell? (a.add j) = some u := by
  intro j u hj
  have hlt : j < (tsL l).length := (List.getElem?_eq_some_iff.1 hj).1
  rw [tsL_length] at hlt
  have hi : j / 3 < l.length := by omega
  obtain ⟨b, o, cs, e, _, hl, hc, rfl, _⟩ := h.at_ hi
  injection e with e
  subst e
  have h1 := tsL_at hi
  have h2 : ([.int .i64 l[j / 3].kind, .string l[j / 3].name, .string l[j / 3].value] : List Value)[j % 3]? = some u := by
    rw [← h1, List.getElem?_take_of_lt (by omega), List.getElem?_drop, show j / 3 * 3 + j % 3 = j by omega]
    exact hj
  have := hc _ _ h2
  rw [Addr.add_lit]
  rwa [Nat.add_assoc, show j / 3 * 3 + j % 3 = j by omega] at this
theorem ts_sm {B : Nat} {w : World} {v : Value} {l : List Tst} (h : RdL testE 3 B w v l) : ∀ t ∈ l, t.name.size ≤ maxLen ∧ t.value.size ≤ maxLen ∧ (Lit.int .i64 t.kind).wf = true := by
  intro t ht
  obtain ⟨A, c, rfl, _, _, h'⟩ := h.form
  obtain ⟨i, hi, rfl⟩ := List.mem_iff_getElem.1 ht
  obtain ⟨_, _, _, _, _, _, _, hm⟩ := h'.at_ hi
  exact hm.2
theorem ts_own {w : World} {base : Nat} {T : TypeId} {v : Value} {l : List Tst} {n : Nat} (h : w.ownsRow base T 3 v n (tsL l)) (hn : l.length = n) (hm : ∀ t ∈ l, t.name.size ≤ maxLen ∧ t.value.size ≤ maxLen ∧ (Lit.int .i64 t.kind).wf = true) : RdL testE 3 w.heap.size w v l :=
  RdL.of_own h hn (fun g hg => (h.lt g hg).2) (fun i hi => ⟨tsL_at hi, hm _ (List.getElem_mem hi)⟩)
/-- 'append' of any slice, nil too, as an operation of a region that draws its order. -/
theorem oper_any {P : Program} {o : Oper} {a : Act} {w : World} {K : Act → World → Prop} {Q : Exit → Act → World → Prop} (s x : Operand) (t : TypeId)
    (ho : o.op = .call { callee := .builtin .append, args := #[s, x], argTypes := #[t, t] })
    (base : Nat) (e : TypeId) (i : TypeInfo) (z : Value) (size bytes : Nat) (ht : P.underlying t = some (.slice e)) (hi : P.info? e = some i) (hz : i.zero = some z)
    (hsize : i.size = size) (hby : i.bytes = bytes) (hzs : z.cells.size = size) (hsz : 0 < size)
    (v : Value) (n : Nat) (xs : List Value) (hs : a.eval s = v) (hown : w.ownsRow base e size v n xs)
    (A : Option Addr) (m c : Nat) (news : List Value) (hx : a.eval x = .slice A m c) (hA : A = none → m = 0) (hl : news.length = m * size) (hnews : ∀ ad, A = some ad → ∀ j u, news[j]? = some u → w.cell? (ad.add j) = some u) (h1 : ∀ u ∈ news, u.oneCell' = true)
    (h63 : n + m ≤ maxLen) (hbytes : (n + m) * bytes ≤ 140737488355328) (hbase : base ≤ w.heap.size)
    (h : ∀ v' w', w'.ownsRow base e size v' (n + m) (xs ++ news) → w.grownBy w' v.ownBlock → (v'.ownBlock = v.ownBlock ∨ v'.ownBlock = some w.heap.size) → K (a.put o.dst v') w') :
    Oper.wp P o a w K Q := by
  cases A with
  | some ad =>
    obtain ⟨v', w', hr, h2, h3, h4, h5⟩ := run_append_own_at (P := P) w base t o.type e i z size bytes ht hi hz hsize hby hzs hsz v n xs hown ad m c news hl (hnews ad rfl) h1 h63 hbytes hbase
    unfold Oper.wp execOp
    simp only [ho, resolve, invoke, builtin, Sem.run_bind, Sem.run_pure, Result.andThen_ok, List.map_toArray, List.map_cons, List.map_nil, hs, hx, hr]
    exact h _ _ h2 h3 h5
  | none =>
    have hm := hA rfl
    subst hm
    have hnl : news = [] := List.eq_nil_of_length_eq_zero (by omega)
    subst hnl
    have hrun := PlA.run_append_none (P := P) (w := w) base t o.type e i size c ht hi v n xs hown
    unfold Oper.wp execOp
    simp only [ho, resolve, invoke, builtin, Sem.run_bind, Sem.run_pure, Result.andThen_ok, List.map_toArray, List.map_cons, List.map_nil, hs, hx, hrun]
    refine h v w ?_ ?_ (.inl rfl)
    · show w.ownsRow base e size v (n + 0) (xs ++ [])
      rw [List.append_nil]
      exact hown
    · exact ⟨rfl, rfl, rfl, Nat.le_refl _, fun _ _ _ => rfl⟩
theorem grown_belowN {w W w7 : World} {B sz : Nat} {e : TypeId} {v : Value} {n : Nat} {xs : List Value} (h : Below w.heap.size w W) (hg : W.grownBy w7 v.ownBlock) (hown : W.ownsRow B e sz v n xs) (hB : w.heap.size ≤ B) : Below w.heap.size w w7 :=
  h.trans ((Off.grown (Y := fun b => w.heap.size ≤ b) hg (fun r hr => Nat.le_trans hB (hown.lt r hr).1)).toBelow h.size (fun b hb => hb))
theorem smC_few {c : List Tst} (h : fewB [[{ c := c }]] = true) (hl : c.length * 40 ≤ reachBytes) : SmC c ∧ c.length ≤ 40 := by
  unfold fewB smL cntL cntS at h
  simp only [List.all_cons, List.all_nil, Bool.and_true, Bool.and_eq_true, decide_eq_true_eq, List.map_cons, List.map_nil, List.sum_cons, List.sum_nil] at h
  refine ⟨fun t ht => ?_, ?_⟩
  · have := List.all_eq_true.1 h.1 t ht
    unfold smT at this
    rw [Bool.and_eq_true, decide_eq_true_eq] at this
    omega
  · have h2 := h.2
    unfold reachBytes at hl
    unfold wrap64 at h2
    omega
theorem if_want {b : Bool} {A B : Prop} (hc : b = true) (h : A) : if b = true then A else B := by rw [if_pos hc]; exact h
theorem info_test : (Tryz.prog.info? 102).map (fun i => (i.zero, i.size, i.bytes)) = some (some (.agg #[.int .i64 0, .string ⟨#[]⟩, .string ⟨#[]⟩]), 3, 40) := by kernel_rfl
end Go.Proofs.YthdenkkllpkplaaGreat.Fi
end
section
/- The document's own way to tell whether a row ends at a node: for all nodes at once. Plain; no program. -/
namespace Go.Proofs.YthdenkkllpkplaaGreat.Fi
open Go Go.RowKit Go.Proofs.YthdenkkllpkplaaGreat.WS Go.Proofs.YthdenkkllpkplaaGreat.FS Go.Proofs.YthdenkkllpkplaaGreat.Fn Go.Proofs.YthdenkkllpkplaaGreat.Pa Go.Proofs.YthdenkkllpkplaaGreat.Grown
set_option linter.unusedVariables false
/-- May a row be so at what stands ahead of a node? n: so many steps up it is. -/
def aheadB (f : Fo) (now : List Bool) (x : Stp) (first : Bool) (n : Nat) (id : Int) : Bool :=
  first || (if x.child then decide (0 ≤ (at_ f id).parent) && now.getD (at_ f id).parent.toNat false else (upL f (n - 1) (at_ f id).parent).any (fun u => now.getD u.toNat false))
noncomputable def rStep (f : Fo) (x : Stp) (first : Bool) (now : List Bool) : List Bool := (List.range f.length).map (fun (id : Nat) => aheadB f now x first (depthOf f id) id && fitsC (at_ f id) x.c)
noncomputable def rEnds (f : Fo) : Bool → List Bool → Sro → List Bool
  | _, now, [] => now
  | first, now, x :: r => rEnds f false (rStep f x first now) r
/-- n steps up. -/
def upR (f : Fo) : Nat → Int → Int
  | 0, i => i
  | n + 1, i => upR f n (at_ f i).parent
theorem upL_cut (f : Fo) : ∀ (a b : Nat) (i : Int), upL f (a + b) i = upL f a i ++ upL f b (upR f a i)
  | 0, b, i => by rw [Nat.zero_add]; rfl
  | a + 1, b, i => by rw [show a + 1 + b = (a + b) + 1 by omega, upL, upL_cut f a b, upL, upR]; rfl
theorem up_cut {f : Fo} : ∀ (a b : Nat) (i : Int), Up f (a + b) i → Up f b (upR f a i)
  | 0, b, i, h => by rw [Nat.zero_add] at h; exact h
  | a + 1, b, i, h => by
    rw [show a + 1 + b = (a + b) + 1 by omega] at h
    exact up_cut a b _ h.2
/-- What stands in the way at a place, and what stands ahead of it there. -/
theorem way_at {f : Fo} {n : Nat} {i : Int} (h : Up f n i) {k : Nat} (hk : k < n) : ∃ u : Int, Up f (k + 1) u ∧ (upL f n i).reverse.getD k 0 = u ∧ (upL f n i).reverse.take k = (upL f k (at_ f u).parent).reverse := by
  obtain ⟨a, rfl⟩ : ∃ a, n = a + (k + 1) := ⟨n - (k + 1), by omega⟩
  refine ⟨upR f a i, up_cut _ _ _ h, ?_, ?_⟩
  · rw [getD_rev (by rw [up_len]; omega), up_len, upL_cut, List.getD_eq_getElem?_getD, List.getElem?_append_right (by rw [up_len]; omega), up_len, show a + (k + 1) - 1 - k - a = 0 by omega]
    simp [upL]
  · rw [upL_cut, List.reverse_append, upL, List.reverse_cons, List.append_assoc, List.take_append_of_le_length (by rw [List.length_reverse, up_len]; omega), List.take_of_length_le (by rw [List.length_reverse, up_len]; omega)]
theorem rStep_length (f : Fo) (x : Stp) (first : Bool) (now : List Bool) : (rStep f x first now).length = f.length := by unfold rStep; simp
theorem rEnds_length {f : Fo} : ∀ (r : Sro) (first : Bool) (now : List Bool), now.length = f.length → (rEnds f first now r).length = f.length
  | [], _, _, h => h
  | x :: r, first, now, h => rEnds_length r false _ (rStep_length _ _ _ _)
theorem along_step {f : Fo} (hm : mayB f = true) (x : Stp) (first : Bool) {now : List Bool} {n : Nat} {i : Int} (hi : isNode f i = true) (h : Up f n i) {nw : List Bool} (hl : nw.length = n)
    (hk : ∀ k, k < n → nw.getD k false = now.getD ((upL f n i).reverse.getD k 0).toNat false) : ∀ k, k < n → (stepL f x first (upL f n i).reverse nw).getD k false = (rStep f x first now).getD ((upL f n i).reverse.getD k 0).toNat false := by
  intro k hkn
  obtain ⟨u, hu, hg, ht⟩ := way_at h hkn
  have hil : i < f.length := ((node_iff f i).1 hi).2
  have hmem : u ∈ upL f n i := by
    have : u ∈ (upL f n i).reverse := by
      rw [← hg, List.getD_eq_getElem?_getD, List.getElem?_eq_getElem (by rw [List.length_reverse, up_len]; exact hkn), Option.getD_some]
      exact List.getElem_mem _
    exact List.mem_reverse.1 this
  obtain ⟨m, rfl, hml⟩ := node_nat (upL_node hm n i h hil u hmem)
  rw [hg]
  unfold stepL rStep
  rw [List.getD_eq_getElem?_getD, List.getElem?_map, List.getElem?_range (by rw [List.length_reverse, up_len]; exact hkn), List.getD_eq_getElem?_getD, Int.toNat_natCast, List.getElem?_map, List.getElem?_range hml]
  simp only [Option.map_some, Option.getD_some, hg]
  congr 1
  unfold aheadB
  rw [depthOf_up hu]
  simp only [Nat.add_sub_cancel]
  cases first with
  | true => simp
  | false =>
    simp only [Bool.not_false, Bool.true_and, Bool.false_or]
    have hpar : ∀ j, j < k → (upL f k (at_ f (m : Int)).parent).reverse.getD j 0 = (upL f n i).reverse.getD j 0 := fun j hj => by
      rw [← ht, List.getD_eq_getElem?_getD, List.getElem?_take_of_lt hj, ← List.getD_eq_getElem?_getD]
    cases x.child with
    | true =>
      rw [if_pos rfl, if_pos rfl]
      cases k with
      | zero =>
        have : (at_ f (m : Int)).parent < 0 := hu.2
        rw [decide_eq_false (by omega), decide_eq_false (by omega)]
        rfl
      | succ k =>
        have h1 := hu.2.1
        rw [decide_eq_true (by omega), decide_eq_true h1, Bool.true_and, Bool.true_and, Nat.add_sub_cancel, hk k (by omega), ← hpar k (by omega), getD_rev (by rw [up_len]; omega), up_len, show k + 1 - 1 - k = 0 by omega]
        simp [upL]
    | false =>
      rw [if_neg (by decide), if_neg (by decide)]
      rw [Bool.eq_iff_iff, List.any_eq_true, List.any_eq_true]
      constructor
      · rintro ⟨b, hb, hb1⟩
        obtain ⟨j, hj, rfl⟩ := List.mem_iff_getElem.1 hb
        rw [List.length_take] at hj
        have e := hk j (by omega)
        rw [List.getElem_take] at hb1
        rw [List.getD_eq_getElem?_getD, List.getElem?_eq_getElem (by omega), Option.getD_some] at e
        refine ⟨(upL f k (at_ f (m : Int)).parent).reverse.getD j 0, ?_, by rw [hpar j (by omega), ← e]; exact hb1⟩
        rw [List.getD_eq_getElem?_getD, List.getElem?_eq_getElem (by rw [List.length_reverse, up_len]; omega), Option.getD_some]
        exact List.mem_reverse.1 (List.getElem_mem _)
      · rintro ⟨u, hu1, hu2⟩
        obtain ⟨j, hj, hju⟩ := List.mem_iff_getElem.1 (List.mem_reverse.2 hu1)
        rw [List.length_reverse, up_len] at hj
        have e := hk j (by omega)
        rw [← hpar j hj, List.getD_eq_getElem?_getD (l := (upL f k (at_ f (m : Int)).parent).reverse), List.getElem?_eq_getElem (by rw [List.length_reverse, up_len]; exact hj), Option.getD_some, hju, hu2] at e
        refine ⟨nw[j], ?_, ?_⟩
        · rw [List.mem_take_iff_getElem]
          exact ⟨j, by omega, rfl⟩
        · rw [List.getD_eq_getElem?_getD, List.getElem?_eq_getElem (by omega), Option.getD_some] at e
          exact e
theorem along_ends {f : Fo} (hm : mayB f = true) {n : Nat} {i : Int} (hi : isNode f i = true) (h : Up f n i) : ∀ (r : Sro) (first : Bool) (nw now : List Bool), nw.length = n →
    (∀ k, k < n → nw.getD k false = now.getD ((upL f n i).reverse.getD k 0).toNat false) → ∀ k, k < n → (endsL f (upL f n i).reverse first nw r).getD k false = (rEnds f first now r).getD ((upL f n i).reverse.getD k 0).toNat false
  | [], _, nw, now, hl, hk, k, hkn => hk k hkn
  | x :: r, first, nw, now, hl, hk, k, hkn => by
    rw [endsL, rEnds]
    exact along_ends hm hi h r false _ _ (by rw [stepL_length, List.length_reverse, up_len]) (along_step hm x first hi h hl hk) k hkn
/-- Both ways tell the same. -/
theorem ends_same {f : Fo} (hm : mayB f = true) {i : Nat} (hi : i < f.length) (r : Sro) : (rEnds f true (List.replicate f.length false) r).getD i false = endsB f (wayOf f i) r := by
  obtain ⟨N, hN⟩ := may_climbs hm i hi
  have hn : isNode f (i : Int) = true := nodeI hi
  unfold wayOf
  rw [depthOf_up hN]
  obtain ⟨n, rfl⟩ : ∃ n, N = n + 1 := by
    cases N with
    | zero => have : (i : Int) < 0 := hN; omega
    | succ n => exact ⟨n, rfl⟩
  have hl : (upL f (n + 1) i).reverse.length = n + 1 := by rw [List.length_reverse, up_len]
  have hg : (upL f (n + 1) i).reverse.getD n 0 = i := by
    rw [getD_rev (by rw [up_len]; omega), up_len]
    simp [upL]
  have rep : ∀ (m k : Nat), (List.replicate m false).getD k false = false := fun m k => by
    rw [List.getD_eq_getElem?_getD, List.getElem?_replicate]
    split <;> rfl
  unfold endsB
  rw [hl]
  cases r with
  | nil =>
    rw [rEnds, rep]
    simp
  | cons x r =>
    rw [decide_eq_true (by simp), Bool.true_and, Nat.add_sub_cancel]
    rw [along_ends hm hn hN (x :: r) true (List.replicate (n + 1) false) (List.replicate f.length false) (by simp) (fun k hk => by rw [rep, rep]) n (by omega), hg, Int.toNat_natCast]
theorem ref_is {f : Fo} (hm : mayB f = true) (i : Int) (l : Sel) : isS f i l = (isNode f i && l.any (fun r => (rEnds f true (List.replicate f.length false) r).getD i.toNat false)) := by
  unfold isS
  cases h : isNode f i with
  | false => rfl
  | true =>
    obtain ⟨k, rfl, hk⟩ := node_nat h
    simp only [Bool.true_and, Int.toNat_natCast, ends_same hm hk]
end Go.Proofs.YthdenkkllpkplaaGreat.Fi
end
section
/- The words of a text, byte by byte. Plain; no program. -/
namespace Go.Proofs.YthdenkkllpkplaaGreat.R2
open Go.Proofs.YthdenkkllpkplaaGreat.WS
set_option linter.unusedVariables false
/-- Words of two texts with a blank between. -/
theorem words_cut (y : UInt8) (hb10 : isBlank y = true) (l : List UInt8) : ∀ (t : List UInt8), words (l ++ y :: t) = words l ++ words t := by
  induction h : l.length using Nat.strongRecOn generalizing l with
  | _ n ih =>
    intro t
    by_cases ht : trimB l = []
    · have hall : ∀ b ∈ l, isBlank b = true := by
        intro b hb
        unfold trimB at ht
        clear ih h
        induction l with
        | nil => cases hb
        | cons x l ihl =>
          rw [List.dropWhile_cons] at ht
          cases hx : isBlank x with
          | false => rw [hx] at ht; cases ht
          | true =>
            rw [hx] at ht
            rcases List.mem_cons.1 hb with rfl | hb
            · exact hx
            · exact ihl ht hb
      have hd : trimB (l ++ y :: t) = trimB t := by
        unfold trimB
        rw [List.dropWhile_append, (by unfold trimB at ht; exact ht : List.dropWhile isBlank l = [])]
        simp [hb10]
      rw [words_nil ht, List.nil_append]
      by_cases h0 : trimB t = []
      · rw [words_nil h0, words_nil (by rw [hd, h0])]
      · rw [words_cons h0, words_cons (by rw [hd]; exact h0), hd]
    · have e : trimB (l ++ y :: t) = trimB l ++ y :: t := by
        unfold trimB at ht ⊢
        rw [List.dropWhile_append]
        simp [ht]
      have h1 := tailB_lt ht
      have h2 := trimB_le l
      have key : ∀ u : List UInt8, headB (u ++ y :: t) = headB u ∧ tailB (u ++ y :: t) = tailB u ++ y :: t := by
        intro u
        induction u with
        | nil => constructor <;> simp [headB, tailB, hb10]
        | cons x u ihu =>
          cases hx : isBlank x with
          | true => constructor <;> simp [headB, tailB, hx]
          | false =>
            obtain ⟨i1, i2⟩ := ihu
            unfold headB at i1
            unfold tailB at i2
            constructor
            · simp only [headB, List.cons_append, List.takeWhile_cons, hx]; simpa using i1
            · simp only [tailB, List.cons_append, List.dropWhile_cons, hx]; simpa using i2
      rw [words_cons (by rw [e]; simp), e, (key _).1, (key _).2, words_cons ht, ih _ (by omega) _ rfl t, List.cons_append]

theorem words_none : words [] = [] := words_nil rfl
theorem words_one {l : List UInt8} (h : ∀ b ∈ l, isBlank b = false) (hne : l ≠ []) : words l = [l] := by
  have ht : trimB l = l := by
    cases l with
    | nil => rfl
    | cons b t => unfold trimB; rw [List.dropWhile_cons, h b (by simp)]; rfl
  have hh : headB l = l := by
    have key : ∀ u : List UInt8, (∀ b ∈ u, isBlank b = false) → headB u = u := fun u => by
      induction u with
      | nil => intro _; rfl
      | cons b u ih =>
        intro hu
        have := ih (fun c hc => hu c (by simp [hc]))
        unfold headB at this ⊢
        rw [List.takeWhile_cons, hu b (by simp), this]
        rfl
    exact key l h
  have htl : tailB l = [] := by
    have := head_tail l
    rw [hh] at this
    exact List.append_right_eq_self.1 this
  rw [words_cons (by rw [ht]; exact hne), ht, hh, htl, words_none]
/-- What stands when so many bytes have been read: all words but the last one, and it. -/
def TokI (s : List UInt8) (i : Nat) (out : List (List UInt8)) (w : List UInt8) : Prop := ∃ p, s.take i = p ++ w ∧ (∀ b ∈ w, isBlank b = false) ∧ out = once (words p) ∧ ∀ t, words (p ++ t) = words p ++ words t
/-- A word more, if it is one, and new. -/
def flush (out : List (List UInt8)) (w : List UInt8) : List (List UInt8) := if w = [] ∨ w ∈ out then out else out ++ [w]
theorem flush_once {p w : List UInt8} (hw : ∀ b ∈ w, isBlank b = false) : flush (once (words p)) w = once (words p ++ words w) := by
  unfold flush
  by_cases h : w = []
  · subst h
    rw [if_pos (.inl rfl), words_none, List.append_nil]
  · rw [words_one hw h, once_snoc]
    by_cases h2 : w ∈ once (words p)
    · rw [if_pos (.inr h2), if_pos h2]
    · rw [if_neg (fun hx => hx.elim h h2), if_neg h2]
theorem TokI.zero (s : List UInt8) : TokI s 0 [] [] := ⟨[], rfl, fun b hb => (by cases hb), by rw [words_none]; rfl, fun t => by rw [words_none]; rfl⟩
theorem TokI.face {s : List UInt8} {i : Nat} {out : List (List UInt8)} {w : List UInt8} (h : TokI s i out w) (hi : i < s.length) (hb : isBlank s[i] = false) : TokI s (i + 1) out (w ++ [s[i]]) := by
  obtain ⟨p, h1, h2, h3, h4⟩ := h
  refine ⟨p, by rw [List.take_succ_eq_append_getElem hi, h1, List.append_assoc], fun b hx => ?_, h3, h4⟩
  rw [List.mem_append, List.mem_singleton] at hx
  rcases hx with hx | rfl
  · exact h2 b hx
  · exact hb
theorem TokI.blank {s : List UInt8} {i : Nat} {out : List (List UInt8)} {w : List UInt8} (h : TokI s i out w) (hi : i < s.length) (hb : isBlank s[i] = true) : TokI s (i + 1) (flush out w) [] := by
  obtain ⟨p, h1, h2, h3, h4⟩ := h
  have e : ∀ t, words (p ++ w ++ [s[i]] ++ t) = words p ++ words w ++ words t := fun t => by
    rw [show p ++ w ++ [s[i]] ++ t = p ++ (w ++ s[i] :: t) by simp, h4, words_cut _ hb, List.append_assoc]
  have e0 : words (p ++ w ++ [s[i]]) = words p ++ words w := by
    have := e []
    rw [List.append_nil, words_none, List.append_nil] at this
    exact this
  refine ⟨p ++ w ++ [s[i]], by rw [List.take_succ_eq_append_getElem hi, h1, List.append_nil], fun b hx => (by cases hx), by rw [h3, flush_once h2, e0], fun t => by rw [e, e0]⟩
theorem TokI.fin {s : List UInt8} {out : List (List UInt8)} {w : List UInt8} (h : TokI s s.length out w) : flush out w = once (words s) := by
  obtain ⟨p, h1, h2, h3, h4⟩ := h
  rw [List.take_length] at h1
  rw [h3, flush_once h2, h1, h4]
theorem TokI.len {s : List UInt8} {i : Nat} {out : List (List UInt8)} {w : List UInt8} (h : TokI s i out w) (hi : i ≤ s.length) : out.length + w.length ≤ i := by
  obtain ⟨p, h1, h2, h3, h4⟩ := h
  have e : (p ++ w).length = i := by rw [← h1, List.length_take]; omega
  rw [List.length_append] at e
  have h5 := once_length (words p)
  have h6 := words_length p
  rw [h3]
  omega
end Go.Proofs.YthdenkkllpkplaaGreat.R2
end
section
/- treillageref02: Fold, blank, in, Tokens, Has. -/
namespace Go.Proofs.YthdenkkllpkplaaGreat.R2
open Go Go.RowKit Go.Proofs.YthdenkkllpkplaaGreat.Seq Go.Proofs.YthdenkkllpkplaaGreat.WS Go.Proofs.YthdenkkllpkplaaGreat.FS Go.Proofs.YthdenkkllpkplaaGreat.Mem Go.Proofs.YthdenkkllpkplaaGreat.Rd Go.Proofs.YthdenkkllpkplaaGreat.Shapes Go.Proofs.YthdenkkllpkplaaGreat.Word Go.Proofs.YthdenkkllpkplaaGreat.FFam
set_option linter.unusedVariables false
set_option linter.unusedSimpArgs false
theorem blank_is (b : UInt8) (h : isBlank b = true) : (b.toNat : Int) = 9 ∨ (b.toNat : Int) = 10 ∨ (b.toNat : Int) = 12 ∨ (b.toNat : Int) = 13 ∨ (b.toNat : Int) = 32 := by
  unfold isBlank at h
  simp only [Bool.or_eq_true, beq_iff_eq] at h
  rcases h with (((rfl | rfl) | rfl) | rfl) | rfl <;> simp
theorem blank_not (b : UInt8) (h : isBlank b = false) : ((b.toNat : Int) == 9) = false ∧ ((b.toNat : Int) == 10) = false ∧ ((b.toNat : Int) == 12) = false ∧ ((b.toNat : Int) == 13) = false ∧ ((b.toNat : Int) == 32) = false := by
  have key : ∀ n : Fin 256, isBlank (UInt8.ofNat n.val) = false → n.val ≠ 9 ∧ n.val ≠ 10 ∧ n.val ≠ 12 ∧ n.val ≠ 13 ∧ n.val ≠ 32 := by decide +kernel
  have := key ⟨b.toNat, b.toNat_lt⟩ (by simpa using h)
  simp only [beq_eq_false_iff_ne] at *
  omega
theorem blank_calls (b : UInt8) (w : World) : Calls Tryz.prog 200 #[.int .u8 (b.toNat : Int)] w fun e w' => e = .returned (.bool (isBlank b)) ∧ w = w' := by
  cases hb : isBlank b with
  | false =>
    obtain ⟨h1, h2, h3, h4, h5⟩ := blank_not b hb
    generalize (b.toNat : Int) = n at *
    go_enter Tryz.func200, Tryz.ntmps200
    go_wp2_with fail
    go_ret
    exact ⟨rfl, rfl⟩
  | true =>
    have h := blank_is b hb
    generalize (b.toNat : Int) = n at *
    rcases h with rfl | rfl | rfl | rfl | rfl
    all_goals
      go_enter Tryz.func200, Tryz.ntmps200
      go_wp2_with fail
      go_ret
      exact ⟨rfl, rfl⟩
def inB (x : ByteArray) (l : List ByteArray) : Bool := l.any (fun y => decide (y = x))
theorem inB_yes {x : ByteArray} {l : List ByteArray} (h : x ∈ l) : inB x l = true := List.any_eq_true.2 ⟨x, h, decide_eq_true rfl⟩
theorem inB_no {x : ByteArray} {l : List ByteArray} (h : x ∉ l) : inB x l = false := List.any_eq_false.2 (fun y hy => by
  rw [decide_eq_true_eq]
  rintro rfl
  exact h hy)
theorem in_calls (w : World) (v : Value) (l : List ByteArray) (h : RdL strE 1 w.heap.size w v l) (x : ByteArray) : Calls Tryz.prog 183 #[v, .string x] w fun e w' => e = .returned (.bool (inB x l)) ∧ w = w' := by
  obtain ⟨A0, c0, rfl, hl0, hc0, h'⟩ := h.form
  simp only [maxLen] at hc0
  have Hh := Lib.hid h'
  clear h h'
  go_enter Tryz.func183, Tryz.ntmps183
  go_wp2_with fail
  go_loop [5] (fun i => ∃ k : Nat, k ≤ l.length ∧ i = .int .i64 k ∧ Hid (x ∉ l.take k)) (fun i => l.length - (intOf i).toNat)
  case atStart => exact ⟨0, Nat.zero_le _, rfl, Lib.hid (by simp)⟩
  case round =>
    obtain ⟨k, hk, rfl, hn⟩ := hrel
    by_cases hlt : k < l.length
    · obtain ⟨b, o, rfl, _, g0, gm⟩ := strE_at Hh.out hlt
      have hmem := List.getElem_mem hlt
      have htk : l.take (k + 1) = l.take k ++ [l[k]] := List.take_succ_eq_append_getElem hlt
      have Hmem := Lib.hid hmem; have Htk := Lib.hid htk
      clear hmem htk gm
      generalize l[k] = y at *
      have hs := FSame.str_beq y x
      by_cases e : y = x
      · subst e
        have hd : (y.toList == y.toList) = true := by simp
        have hr : inB y l = true := inB_yes Hmem.out
        have Hr := Lib.hid hr
        clear hs hr
        go_wp2_with fail
        go_ret
        exact ⟨by rw [Hr.out]; rfl, rfl⟩
      · have hd : (y.toList == x.toList) = false := by rw [hs]; exact decide_eq_false e
        have E := Lib.hid e
        clear hs e
        go_wp2_with fail
        go_round
        case rel => exact ⟨k + 1, by omega, by go_num, Lib.hid (by
          rw [Htk.out, List.mem_append, List.mem_singleton]
          rintro (h | h)
          · exact hn.out h
          · exact E.out h.symm)⟩
        case measure => simp [intOf]; omega
    · obtain rfl : k = l.length := by omega
      have hr : inB x l = false := inB_no (by have := hn.out; rwa [List.take_length] at this)
      have Hr := Lib.hid hr
      clear hr hn
      go_wp2_with fail
      go_ret
      exact ⟨by rw [Hr.out]; rfl, rfl⟩
theorem fold_add (b : UInt8) (h1 : 65 ≤ (b.toNat : Int)) (h2 : (b.toNat : Int) ≤ 90) : ((foldB b).toNat : Int) = (b.toNat : Int) + 32 := by
  have hb : foldB b = b ||| 32 := by unfold foldB; rw [if_pos ⟨by omega, by omega⟩]
  rw [hb]
  have key : ∀ n : Fin 256, 65 ≤ n.val → n.val ≤ 90 → (((UInt8.ofNat n.val) ||| 32).toNat : Int) = (n.val : Int) + 32 := by decide +kernel
  have := key ⟨b.toNat, b.toNat_lt⟩ (by show 65 ≤ b.toNat; omega) (by show b.toNat ≤ 90; omega)
  simpa using this
/-- The cells of what is folded so far. -/
def foldR (s : ByteArray) (k : Nat) : List Value := ((s.data.toList.take k).map foldB).map (fun b => .int .u8 (b.toNat : Int))
theorem foldR_len {s : ByteArray} {k : Nat} (h : k ≤ s.size) : (foldR s k).length = k := by
  unfold foldR
  rw [List.length_map, List.length_map, List.length_take, Array.length_toList]
  exact Nat.min_eq_left h
theorem foldR_succ {s : ByteArray} {k : Nat} (h : k < s.size) : foldR s (k + 1) = foldR s k ++ [.int .u8 ((foldB s[k]).toNat : Int)] := by
  unfold foldR
  rw [List.take_succ_eq_append_getElem (by rw [Array.length_toList]; exact h), List.map_append, List.map_append]
  rfl
theorem info_u8 : (Tryz.prog.info? 5).map (fun i => (i.zero, i.size, i.bytes)) = some (some (.int .u8 0), 1, 1) := by kernel_rfl
set_option maxRecDepth 100000 in
set_option maxHeartbeats 4000000 in
theorem Fold_calls (s : ByteArray) (hs : s.size ≤ 1000) (w : World) : Calls Tryz.prog 156 #[.string s] w fun e w' => e = .returned (.string ⟨s.data.map foldB⟩) ∧ Below w.heap.size w w' := by
  go_enter Tryz.func156, Tryz.ntmps156
  go_wp2_with fail
  go_loopw [3, 4] (fun u i wr => ∃ k : Nat, k ≤ s.size ∧ i = .int .i64 k ∧ (∃ g c, u = .slice (some ⟨g, 0, none⟩) k c) ∧ Hid (wr.ownsRow w.heap.size 5 1 u k (foldR s k)) ∧ Hid (Below w.heap.size w wr)) (fun _ i _ => s.size - (intOf i).toNat)
  case atStart => exact ⟨0, Nat.zero_le _, rfl, ⟨_, _, rfl⟩, Lib.hid (World.ownsRow_lit w #[] 0 (Nat.le_refl _) (by decide) rfl), Lib.hid ((Below.refl _ _).alloc (Nat.le_refl _) _)⟩
  case round =>
    obtain ⟨k, hk, rfl, ⟨gr, cr, rfl⟩, hrow, hb⟩ := hrel
    by_cases hlt : k < s.size
    · have hs2 := foldR_succ hlt
      have hsame : ¬ (65 ≤ (s[k].toNat : Int) ∧ (s[k].toNat : Int) ≤ 90) → foldB s[k] = s[k] := foldB_same s[k]
      have hadd := fold_add s[k]
      have hbl := s[k].toNat_lt
      have hrl := foldR_len hk
      have hrow' := hrow.out
      obtain ⟨xs, hxs⟩ : ∃ xs, xs = foldR s k := ⟨_, rfl⟩
      rw [← hxs] at hs2 hrl hrow'
      have hrow2 : wr.ownsRow w.heap.size 5 1 (.slice (some ⟨gr, 0, none⟩) k cr) xs.length xs := by rw [hrl]; exact hrow'
      have Hrow := Lib.hid hrow2; have Hs2 := Lib.hid hs2; have Hsame := Lib.hid hsame; have Hadd := Lib.hid hadd; have Hrl := Lib.hid hrl
      clear hrow2 hrow' hs2 hsame hadd hrl hxs hrow
      by_cases h1 : 65 ≤ (s[k].toNat : Int)
      · by_cases h2 : (s[k].toNat : Int) ≤ 90
        · have Hy := Lib.hid (Hadd.out h1 h2)
          clear Hsame Hadd
          go_wp2_with (at_builtin; go_loud (refine Mem.pl_append _ w.heap.size rfl _ _ 162 5 (.int .u8 0) 1 rfl Tryz.underlying162 info_u8 rfl (.slice (some ⟨gr, 0, none⟩) k cr) xs (.int .u8 ((s[k].toNat : Int) + 32)) rfl (by simp [Act.eval]) rfl Hrow.out hb.out.size (by have := Hrl.out; omega) (by have := Hrl.out; simp only [maxLen]; omega) ?_); rintro v7 w17 hown7 hgrow7 ⟨g7, cap7, rfl, hat⟩; have Hown7 := Lib.hid hown7; have Hgrow7 := Lib.hid hgrow7; clear hown7 hgrow7 hat)
          go_roundw
          case rel =>
            refine ⟨k + 1, by omega, by go_num, ⟨g7, cap7, by rw [Hrl.out]⟩, Lib.hid ?_, Lib.hid (FTops.grown_below hb.out Hgrow7.out Hrow.out (Nat.le_refl _))⟩
            have h9 := Hown7.out
            rw [Hs2.out]
            rw [Hy.out]
            simpa only [List.length_append, List.length_cons, List.length_nil, Hrl.out, Nat.zero_add] using h9
          case measure => simp [intOf]; omega
        · have Hy := Lib.hid (Hsame.out (by omega))
          clear Hsame Hadd
          go_wp2_with (at_builtin; go_loud (refine Mem.pl_append _ w.heap.size rfl _ _ 162 5 (.int .u8 0) 1 rfl Tryz.underlying162 info_u8 rfl (.slice (some ⟨gr, 0, none⟩) k cr) xs (.int .u8 (s[k].toNat : Int)) rfl (by simp [Act.eval]) rfl Hrow.out hb.out.size (by have := Hrl.out; omega) (by have := Hrl.out; simp only [maxLen]; omega) ?_); rintro v7 w17 hown7 hgrow7 ⟨g7, cap7, rfl, hat⟩; have Hown7 := Lib.hid hown7; have Hgrow7 := Lib.hid hgrow7; clear hown7 hgrow7 hat)
          go_roundw
          case rel =>
            refine ⟨k + 1, by omega, by go_num, ⟨g7, cap7, by rw [Hrl.out]⟩, Lib.hid ?_, Lib.hid (FTops.grown_below hb.out Hgrow7.out Hrow.out (Nat.le_refl _))⟩
            have h9 := Hown7.out
            rw [Hs2.out]
            rw [Hy.out]
            simpa only [List.length_append, List.length_cons, List.length_nil, Hrl.out, Nat.zero_add] using h9
          case measure => simp [intOf]; omega
      · have Hy := Lib.hid (Hsame.out (by omega))
        clear Hsame Hadd
        go_wp2_with (at_builtin; go_loud (refine Mem.pl_append _ w.heap.size rfl _ _ 162 5 (.int .u8 0) 1 rfl Tryz.underlying162 info_u8 rfl (.slice (some ⟨gr, 0, none⟩) k cr) xs (.int .u8 (s[k].toNat : Int)) rfl (by simp [Act.eval]) rfl Hrow.out hb.out.size (by have := Hrl.out; omega) (by have := Hrl.out; simp only [maxLen]; omega) ?_); rintro v7 w17 hown7 hgrow7 ⟨g7, cap7, rfl, hat⟩; have Hown7 := Lib.hid hown7; have Hgrow7 := Lib.hid hgrow7; clear hown7 hgrow7 hat)
        go_roundw
        case rel =>
          refine ⟨k + 1, by omega, by go_num, ⟨g7, cap7, by rw [Hrl.out]⟩, Lib.hid ?_, Lib.hid (FTops.grown_below hb.out Hgrow7.out Hrow.out (Nat.le_refl _))⟩
          have h9 := Hown7.out
          rw [Hs2.out]
          rw [Hy.out]
          simpa only [List.length_append, List.length_cons, List.length_nil, Hrl.out, Nat.zero_add] using h9
        case measure => simp [intOf]; omega
    · obtain rfl : k = s.size := by omega
      have hcv : (convert 162 9 (.slice (some ⟨gr, 0, none⟩) s.size cr)).run Tryz.prog wr = .ok (.string ⟨s.data.map foldB⟩) wr := by
        have hx := hrow.out
        have := run_convert_bytes_back (P := Tryz.prog) wr 162 9 5 ⟨gr, 0, none⟩ cr (s.data.map foldB).toList Tryz.underlying162 Tryz.underlying5 Tryz.underlying9 (fun j hj => by
          refine hx.cells (g := gr) rfl j _ ?_
          have hj' : j < s.data.size := by simpa using hj
          unfold foldR
          rw [List.take_of_length_le (by rw [Array.length_toList]; exact Nat.le_refl _), List.getElem?_map, List.getElem?_map, List.getElem?_eq_getElem (by rw [Array.length_toList]; exact hj')]
          simp)
        have e1 : (s.data.map foldB).toList.toArray = s.data.map foldB := Array.toArray_toList
        have e2 : (s.data.map foldB).toList.length = s.size := by simp
        rw [e1, e2] at this
        exact this
      clear hrow
      go_wp2_with fail
      go_ret
      exact ⟨rfl, hb.out⟩
theorem bget {s : ByteArray} {k : Nat} (h : k < s.size) : s.data.toList[k]'(by rw [Array.length_toList]; exact h) = s[k] := by simp; rfl
theorem blen (s : ByteArray) : s.data.toList.length = s.size := by rw [Array.length_toList]; rfl
/-- A text of bytes. -/
abbrev bsB (l : List UInt8) : ByteArray := ⟨l.toArray⟩
theorem bs_inj {a b : List UInt8} (h : bsB a = bsB b) : a = b := by injection h with h; injection h
theorem bs_size (l : List UInt8) : (bsB l).size = l.length := by show l.toArray.size = _; simp
theorem inB_bs (w : List UInt8) (l : List (List UInt8)) : inB (bsB w) (l.map bsB) = decide (w ∈ l) := by
  by_cases h : w ∈ l
  · rw [decide_eq_true h]
    exact inB_yes (List.mem_map.2 ⟨w, h, rfl⟩)
  · rw [decide_eq_false h]
    refine inB_no (fun hx => ?_)
    obtain ⟨u, hu, he⟩ := List.mem_map.1 hx
    rw [bs_inj he] at hu
    exact h hu
theorem bs_one (s : ByteArray) (k : Nat) (h : k < s.size) (w : List UInt8) : bsB w ++ s.extract k (k + 1) = bsB (w ++ [s[k]]) := by
  apply ByteArray.ext
  rw [ByteArray.data_append, ByteArray.data_extract]
  have e : s.data.extract k (k + 1) = #[s[k]] := by
    apply Array.ext
    · rw [Array.size_extract]; show min (k + 1) s.data.size - k = 1; have : k < s.data.size := h; omega
    · intro i h1 h2
      have : i = 0 := by simp at h2; exact h2
      subst this
      simp
      rfl
  rw [e]
  simp
/-- The rows of words, as they lie in memory. -/
def wordR (l : List (List UInt8)) : List Value := l.map (fun u => .string (bsB u))
theorem wordR_len (l : List (List UInt8)) : (wordR l).length = l.length := by unfold wordR; simp
theorem str_nil (s : ByteArray) : (s.toList == []) = decide (s.size = 0) := by
  rw [Lib.toList_data, Bool.eq_iff_iff, beq_iff_eq, decide_eq_true_eq]
  constructor
  · intro h
    have := congrArg List.length h
    simpa using this
  · intro h
    apply List.eq_nil_of_length_eq_zero
    simpa using h
theorem info_str : (Tryz.prog.info? 9).map (fun i => (i.zero, i.size, i.bytes)) = some (some (.string ⟨#[]⟩), 1, 16) := by kernel_rfl
theorem rd_words {w : World} {base : Nat} {v : Value} {l : List (List UInt8)} (h : w.ownsRow base 9 1 v l.length (wordR l)) (hs : ∀ u ∈ l, u.length ≤ 1000) : RdL strE 1 w.heap.size w v (l.map bsB) := by
  refine RdL.of_own h (by simp) (fun g hg => (h.lt g hg).2) (fun i hi => ?_)
  rw [List.length_map] at hi
  refine ⟨?_, ?_⟩
  · rw [Nat.mul_one, List.drop_eq_getElem_cons (by unfold wordR; simpa using hi)]
    unfold wordR
    simp
  · rw [List.getElem_map, bs_size]
    exact Nat.le_trans (hs _ (List.getElem_mem hi)) (by decide)
set_option maxRecDepth 100000 in
set_option maxHeartbeats 4000000 in
theorem Tokens_calls (s : ByteArray) (hs : s.size ≤ 1000) (w : World) : Calls Tryz.prog 184 #[.string s] w fun e w' => ∃ v, e = .returned v ∧ RdL strE 1 w'.heap.size w' v ((once (words s.data.toList)).map bsB) ∧ Below w.heap.size w w' := by
  have hbc := fun b w => blank_calls b w
  have Hbc := Lib.hid hbc
  clear hbc
  go_enter Tryz.func184, Tryz.ntmps184
  go_wp2_with fail
  go_loopw [3, 4, 5] (fun u x i wr => ∃ (k : Nat) (out : List (List UInt8)) (t : List UInt8) (T : ByteArray), k ≤ s.size + 1 ∧ i = .int .i64 k ∧ x = .string T ∧ Hid (T = bsB t) ∧ Hid (k ≤ s.size → TokI s.data.toList k out t) ∧ Hid (k = s.size + 1 → out = once (words s.data.toList)) ∧ Hid (wr.ownsRow w.heap.size 9 1 u out.length (wordR out)) ∧ Hid (∀ u ∈ out, u.length ≤ 1000) ∧ Hid (Below w.heap.size w wr)) (fun _ _ i _ => s.size + 1 - (intOf i).toNat)
  case atStart => exact ⟨0, [], [], _, Nat.zero_le _, rfl, rfl, Lib.hid rfl, Lib.hid (fun _ => TokI.zero _), Lib.hid (fun h => by omega), Lib.hid (World.ownsRow_lit w #[] 0 (Nat.le_refl _) (by decide) rfl), Lib.hid (fun u hu => by cases hu), Lib.hid ((Below.refl _ _).alloc (Nat.le_refl _) _)⟩
  case round =>
    obtain ⟨k, out, t, T, hk, rfl, rfl, hT, hI, hF, hrow, hsm, hb⟩ := hrel
    obtain ⟨Ar, cr, rfl⟩ := LShown.slice_of hrow.out
    by_cases hlt : k < s.size
    · have hb1 := fun w => Hbc.out s[k] w
      cases hbk : isBlank s[k] with
      | false =>
        simp only [hbk] at hb1
        have hx := (hI.out (by omega)).face (by rw [blen]; exact hlt) (by rw [bget hlt]; exact hbk)
        rw [bget hlt] at hx
        have hTs : T.size ≤ 1000 := by
          have := (hI.out (by omega)).len (by rw [blen]; omega)
          rw [hT.out, bs_size]
          omega
        have hsl : ∀ W : World, (Instr.slice 9 (.string s) (some (.int .i64 (k : Int))) (some (.int .i64 ((k : Int) + 1))) none).run Tryz.prog W = .ok (.string (s.extract k (k + 1))) W := fun W => by
          have := run_slice_string (P := Tryz.prog) W 9 s .i64 .i64 (k : Int) ((k : Int) + 1) Tryz.underlying9 (by omega) (by omega) (by omega)
          rw [this, Int.toNat_natCast, show ((k : Int) + 1).toNat = k + 1 by omega]
        have hcat : ∀ W : World, (Op.stringOp .add T (s.extract k (k + 1))).run Tryz.prog W = .ok (.string (T ++ s.extract k (k + 1))) W := fun W => run_string_add_sum W _ _ (by rw [ByteArray.size_extract]; omega)
        have hT2 : T ++ s.extract k (k + 1) = bsB (t ++ [s[k]]) := by rw [hT.out]; exact bs_one s k hlt t
        have Hb1 := Lib.hid hb1; have Hx := Lib.hid hx; have HT2 := Lib.hid hT2
        clear hb1 hbk hx hT2
        go_wp2_with (go_at_call 200; (with_reducible refine (Hb1.out _).mono ?_); rintro e w6 ⟨rfl, rfl⟩)
        go_roundw
        case rel => exact ⟨k + 1, out, t ++ [s[k]], _, by omega, by go_num, rfl, HT2, Lib.hid (fun _ => Hx.out), Lib.hid (fun h => by omega), hrow, hsm, hb⟩
        case measure => simp [intOf]; omega
      | true =>
        simp only [hbk] at hb1
        have hlen := (hI.out (by omega)).len (by rw [blen]; omega)
        have htl : t.length ≤ 1000 := by omega
        have hos : out.length ≤ 1000 := by omega
        have hTz : T.size = t.length := by rw [hT.out, bs_size]
        have hin := in_calls wr _ _ (rd_words hrow.out hsm.out) T
        rw [show inB T (out.map bsB) = decide (t ∈ out) by rw [hT.out]; exact inB_bs t out] at hin
        have Hrow : Hid (wr.ownsRow w.heap.size 9 1 (.slice Ar out.length cr) (wordR out).length (wordR out)) := Lib.hid (by rw [wordR_len]; exact hrow.out)
        have hx := (hI.out (by omega)).blank (by rw [blen]; exact hlt) (by rw [bget hlt]; exact hbk)
        have Hb1 := Lib.hid hb1
        clear hb1 hbk
        clear hlen
        by_cases ht0 : t = []
        · have f1 : (T.toList == []) = true := by rw [str_nil]; exact decide_eq_true (by rw [hTz, ht0]; rfl)
          have f2 : (T.toList != []) = false := by rw [bne, f1]; rfl
          have hfl : flush out t = out := by unfold flush; rw [if_pos (.inl ht0)]
          rw [hfl] at hx
          have Hx := Lib.hid hx
          clear hx hfl ht0 hin hTz
          go_wp2_with (first | (go_at_call 200; (with_reducible refine (Hb1.out _).mono ?_); rintro e w6 ⟨rfl, rfl⟩))
          go_roundw
          case rel => exact ⟨k + 1, out, [], _, by omega, by go_num, rfl, Lib.hid rfl, Lib.hid (fun _ => Hx.out), Lib.hid (fun h => by omega), hrow, hsm, hb⟩
          case measure => simp [intOf]; omega
        · have f1 : (T.toList == []) = false := by rw [str_nil]; exact decide_eq_false (fun e => ht0 (List.eq_nil_of_length_eq_zero (by omega)))
          have f2 : (T.toList != []) = true := by rw [bne, f1]; rfl
          by_cases hto : t ∈ out
          · have hfl : flush out t = out := by unfold flush; rw [if_pos (.inr hto)]
            rw [hfl] at hx
            rw [decide_eq_true hto] at hin
            have Hx := Lib.hid hx; have Hin := Lib.hid hin
            clear hx hfl ht0 hin hTz hto
            go_wp2_with (first | (go_at_call 200; (with_reducible refine (Hb1.out _).mono ?_); rintro e w6 ⟨rfl, rfl⟩) | (go_at_call 183; (with_reducible refine (Hin.out).mono ?_); rintro e w6 ⟨rfl, rfl⟩))
            go_roundw
            case rel => exact ⟨k + 1, out, [], _, by omega, by go_num, rfl, Lib.hid rfl, Lib.hid (fun _ => Hx.out), Lib.hid (fun h => by omega), hrow, hsm, hb⟩
            case measure => simp [intOf]; omega
          · have hfl : flush out t = out ++ [t] := by unfold flush; rw [if_neg (fun h => h.elim ht0 hto)]
            rw [hfl] at hx
            rw [decide_eq_false hto] at hin
            have hsm2 : ∀ u ∈ out ++ [t], u.length ≤ 1000 := fun u hu => by
              rw [List.mem_append, List.mem_singleton] at hu
              rcases hu with hu | rfl
              · exact hsm.out u hu
              · exact htl
            have Hx := Lib.hid hx; have Hin := Lib.hid hin; have Hsm2 := Lib.hid hsm2
            clear hx hfl ht0 hin hTz hto hsm2
            go_wp2_with (first | (go_at_call 200; (with_reducible refine (Hb1.out _).mono ?_); rintro e w6 ⟨rfl, rfl⟩) | (go_at_call 183; (with_reducible refine (Hin.out).mono ?_); rintro e w6 ⟨rfl, rfl⟩) | (at_builtin; go_loud (refine Mem.pl_append _ w.heap.size rfl _ _ 214 9 (.string ⟨#[]⟩) 16 rfl Tryz.underlying214 info_str rfl (.slice Ar out.length cr) (wordR out) (.string T) rfl (by simp [Act.eval]) rfl Hrow.out hb.out.size (by rw [wordR_len]; omega) (by rw [wordR_len]; simp only [maxLen]; omega) ?_); rintro v7 w17 hown7 hgrow7 ⟨g7, cap7, rfl, hat⟩; have Hown7 := Lib.hid hown7; have Hgrow7 := Lib.hid hgrow7; clear hown7 hgrow7 hat))
            go_roundw
            case rel =>
              refine ⟨k + 1, out ++ [t], [], _, by omega, by go_num, rfl, Lib.hid rfl, Lib.hid (fun _ => Hx.out), Lib.hid (fun h => by omega), Lib.hid ?_, Hsm2, Lib.hid (FTops.grown_below hb.out Hgrow7.out Hrow.out (Nat.le_refl _))⟩
              have h9 := Hown7.out
              have e : wordR (out ++ [t]) = wordR out ++ [.string T] := by unfold wordR; rw [List.map_append, hT.out]; rfl
              rw [e]
              simpa only [List.length_append, List.length_cons, List.length_nil, wordR_len, Nat.zero_add] using h9
            case measure => simp [intOf]; omega
    · by_cases hks : k = s.size
      · subst hks
        have hlen := (hI.out (by omega)).len (by rw [blen]; omega)
        have htl : t.length ≤ 1000 := by omega
        have hos : out.length ≤ 1000 := by omega
        have hTz : T.size = t.length := by rw [hT.out, bs_size]
        have hin := in_calls wr _ _ (rd_words hrow.out hsm.out) T
        rw [show inB T (out.map bsB) = decide (t ∈ out) by rw [hT.out]; exact inB_bs t out] at hin
        have Hrow : Hid (wr.ownsRow w.heap.size 9 1 (.slice Ar out.length cr) (wordR out).length (wordR out)) := Lib.hid (by rw [wordR_len]; exact hrow.out)
        have hx := (show TokI s.data.toList s.data.toList.length out t by rw [blen]; exact hI.out (by omega)).fin
        clear hlen
        by_cases ht0 : t = []
        · have f1 : (T.toList == []) = true := by rw [str_nil]; exact decide_eq_true (by rw [hTz, ht0]; rfl)
          have f2 : (T.toList != []) = false := by rw [bne, f1]; rfl
          have hfl : flush out t = out := by unfold flush; rw [if_pos (.inl ht0)]
          rw [hfl] at hx
          have Hx := Lib.hid hx
          clear hx hfl ht0 hin hTz
          go_wp2_with fail
          go_roundw
          case rel => exact ⟨s.size + 1, out, [], _, by omega, by go_num, rfl, Lib.hid rfl, Lib.hid (fun h => by omega), Lib.hid (fun _ => Hx.out), hrow, hsm, hb⟩
          case measure => simp [intOf]
        · have f1 : (T.toList == []) = false := by rw [str_nil]; exact decide_eq_false (fun e => ht0 (List.eq_nil_of_length_eq_zero (by omega)))
          have f2 : (T.toList != []) = true := by rw [bne, f1]; rfl
          by_cases hto : t ∈ out
          · have hfl : flush out t = out := by unfold flush; rw [if_pos (.inr hto)]
            rw [hfl] at hx
            rw [decide_eq_true hto] at hin
            have Hx := Lib.hid hx; have Hin := Lib.hid hin
            clear hx hfl ht0 hin hTz hto
            go_wp2_with (first | (go_at_call 183; (with_reducible refine (Hin.out).mono ?_); rintro e w6 ⟨rfl, rfl⟩))
            go_roundw
            case rel => exact ⟨s.size + 1, out, [], _, by omega, by go_num, rfl, Lib.hid rfl, Lib.hid (fun h => by omega), Lib.hid (fun _ => Hx.out), hrow, hsm, hb⟩
            case measure => simp [intOf]
          · have hfl : flush out t = out ++ [t] := by unfold flush; rw [if_neg (fun h => h.elim ht0 hto)]
            rw [hfl] at hx
            rw [decide_eq_false hto] at hin
            have hsm2 : ∀ u ∈ out ++ [t], u.length ≤ 1000 := fun u hu => by
              rw [List.mem_append, List.mem_singleton] at hu
              rcases hu with hu | rfl
              · exact hsm.out u hu
              · exact htl
            have Hx := Lib.hid hx; have Hin := Lib.hid hin; have Hsm2 := Lib.hid hsm2
            clear hx hfl ht0 hin hTz hto hsm2
            go_wp2_with (first | (go_at_call 183; (with_reducible refine (Hin.out).mono ?_); rintro e w6 ⟨rfl, rfl⟩) | (at_builtin; go_loud (refine Mem.pl_append _ w.heap.size rfl _ _ 214 9 (.string ⟨#[]⟩) 16 rfl Tryz.underlying214 info_str rfl (.slice Ar out.length cr) (wordR out) (.string T) rfl (by simp [Act.eval]) rfl Hrow.out hb.out.size (by rw [wordR_len]; omega) (by rw [wordR_len]; simp only [maxLen]; omega) ?_); rintro v7 w17 hown7 hgrow7 ⟨g7, cap7, rfl, hat⟩; have Hown7 := Lib.hid hown7; have Hgrow7 := Lib.hid hgrow7; clear hown7 hgrow7 hat))
            go_roundw
            case rel =>
              refine ⟨s.size + 1, out ++ [t], [], _, by omega, by go_num, rfl, Lib.hid rfl, Lib.hid (fun h => by omega), Lib.hid (fun _ => Hx.out), Lib.hid ?_, Hsm2, Lib.hid (FTops.grown_below hb.out Hgrow7.out Hrow.out (Nat.le_refl _))⟩
              have h9 := Hown7.out
              have e : wordR (out ++ [t]) = wordR out ++ [.string T] := by unfold wordR; rw [List.map_append, hT.out]; rfl
              rw [e]
              simpa only [List.length_append, List.length_cons, List.length_nil, wordR_len, Nat.zero_add] using h9
            case measure => simp [intOf]
      · obtain rfl : k = s.size + 1 := by omega
        have hfin := hF.out rfl
        have hrd := rd_words hrow.out hsm.out
        rw [hfin] at hrd hrow
        have Hrd := Lib.hid hrd
        subst hfin
        clear hrd hI hF
        go_wp2_with fail
        go_ret
        exact ⟨_, rfl, Hrd.out, hb.out⟩
theorem Has_calls (s tok : ByteArray) (hs : s.size ≤ 1000) (w : World) : Calls Tryz.prog 157 #[.string s, .string tok] w fun e w' => e = .returned (.bool ((words s.data.toList).contains tok.data.toList)) ∧ Below w.heap.size w w' := by
  have htk := Tokens_calls s hs w
  have hin := fun w' v (h : RdL strE 1 w'.heap.size w' v ((once (words s.data.toList)).map bsB)) => in_calls w' v _ h tok
  have hb : inB tok ((once (words s.data.toList)).map bsB) = (words s.data.toList).contains tok.data.toList := by
    have e : tok = bsB tok.data.toList := by show tok = ⟨tok.data.toList.toArray⟩; rw [Array.toArray_toList]
    rw [e, inB_bs, Bool.eq_iff_iff, decide_eq_true_eq, mem_once, List.contains_iff_mem]
  simp only [hb] at hin
  obtain ⟨L, hL⟩ : ∃ L, L = (once (words s.data.toList)).map bsB := ⟨_, rfl⟩
  rw [← hL] at htk
  simp only [← hL] at hin
  clear hL hb
  generalize (words s.data.toList).contains tok.data.toList = B at *
  have Htk := Lib.hid htk; have Hin := Lib.hid hin
  clear htk hin
  go_enter Tryz.func157, Tryz.ntmps157
  go_wp2_with (first | (go_at_call 184; (with_reducible refine (Htk.out).mono ?_); rintro e w6 ⟨v6, rfl, hr6, hb6⟩; obtain ⟨A6, c6, rfl, _, _, _⟩ := id hr6; have Hr6 := Lib.hid hr6; have Hb6 := Lib.hid hb6; clear hr6 hb6) | (go_at_call 183; (with_reducible refine (Hin.out _ _ Hr6.out).mono ?_); rintro e w7 ⟨rfl, rfl⟩))
  go_ret
  exact ⟨rfl, Hb6.out⟩
end Go.Proofs.YthdenkkllpkplaaGreat.R2
end
