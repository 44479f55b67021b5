/- Joined by a program: R7S, APlainC. -/
import Derived.Deep.AppendLies
import Derived.Test.YthdenkkllpkplaaGreatC20
import Derived.Test.YthdenkkllpkplaaGreatC14
section
/- treillageref07: set. -/
namespace Go.Proofs.YthdenkkllpkplaaGreat.R7
open Go Go.RowKit Go.Proofs.YthdenkkllpkplaaGreat.Seq Go.Proofs.YthdenkkllpkplaaGreat.WS Go.Proofs.YthdenkkllpkplaaGreat.FS Go.Proofs.YthdenkkllpkplaaGreat.Mem Go.Proofs.YthdenkkllpkplaaGreat.Rd Go.Proofs.YthdenkkllpkplaaGreat.Shapes Go.Proofs.YthdenkkllpkplaaGreat.Word Go.Proofs.YthdenkkllpkplaaGreat.FFam Go.Proofs.YthdenkkllpkplaaGreat.OwnF
set_option linter.unusedVariables false
set_option linter.unusedSimpArgs false
theorem firstE_four (a b c d : Int) (p q r s : Bool) : firstE [(a, p), (b, q), (c, r), (d, s)] = if p = true then (if q = true then (if r = true then (if s = true then 0 else d) else c) else b) else a := by
  unfold firstE
  cases p <;> cases q <;> cases r <;> cases s <;> simp
theorem set_E {f : Fo} {o : Opn} (hmo : mayO o = true) (hk : o.kind = 6) : oneE f o = if isNode f o.id = true then (if ((at_ f o.id).kind == 1) = true then (if namedB o = true then (if (hasA f o || decide ((at_ f o.id).attrs.length < 8)) = true then 0 else 75) else 74) else 71) else 70 := by
  unfold oneE checks
  rw [if_pos hmo, if_neg (by omega), if_neg (by omega), if_neg (by omega), if_neg (by omega), if_pos hk, firstE_four]
  rfl
theorem findA_at {l : List Av} {s : ByteArray} {k : Nat} (hk : k < l.length) (h : l[k].name = s) (hb : ∀ j (hj : j < l.length), j < k → l[j].name ≠ s) : findA l s = some k := by
  unfold findA
  rw [List.findIdx?_eq_some_iff_getElem]
  exact ⟨hk, decide_eq_true h, fun j hj => by simpa using hb j (by omega) hj⟩
theorem findA_no {l : List Av} {s : ByteArray} (hb : ∀ j (hj : j < l.length), l[j].name ≠ s) : findA l s = none := by
  unfold findA
  rw [List.findIdx?_eq_none_iff]
  intro a ha
  obtain ⟨j, hj, rfl⟩ := List.mem_iff_getElem.1 ha
  exact decide_eq_false (hb j hj)
theorem atCells_set {l : List Av} {k : Nat} {n t : ByteArray} (hk : k < l.length) (h : l[k].name = n) : Its.atCells (l.set k ⟨n, t⟩) = (Its.atCells l).set (k * 2 + 1) (.string t) := by
  induction l generalizing k with
  | nil => simp at hk
  | cons a l ih =>
    unfold Its.atCells at ih ⊢
    cases k with
    | zero =>
      simp only [List.getElem_cons_zero] at h
      subst h
      simp [List.set]
    | succ k =>
      rw [List.set_cons_succ, List.flatMap_cons, List.flatMap_cons, ih (by simpa using hk) (by simpa using h), show (k + 1) * 2 + 1 = (k * 2 + 1) + 1 + 1 by omega]
      rfl
theorem atCells_get {l : List Av} {k : Nat} (hk : k < l.length) : (Its.atCells l)[k * 2]? = some (.string l[k].name) ∧ (Its.atCells l)[k * 2 + 1]? = some (.string l[k].value) := by
  have h := Its.atCells_at hk
  have h0 := congrArg (fun x => x[0]?) h
  have h1 := congrArg (fun x => x[1]?) h
  simp only [List.getElem?_take, List.getElem?_drop] at h0 h1
  exact ⟨by simpa using h0, by simpa using h1⟩
set_option maxHeartbeats 1000000 in
/-- The node's attrs are turned: its row, in its block, or in a new one that is stored. -/
theorem OwnA.put {n base B' g : Nat} {w w' : World} {v va' : Value} {f : Fo} {xs : List Value} {ba : Option Nat} {L' : List Av} (h1 : w.ownsRow base 86 6 v f.length xs) (h2 : ∀ i (hi : i < f.length), i ≠ n → nodeS (fun b => v.ownBlock ≠ some b ∧ ba ≠ some b) w (cellsAt xs i) f[i]) (hn : n < f.length)
    (h3 : SpN base w v ba (cellsAt xs n) f[n]) (hv : v.ownBlock = some g) (hkeep : ∀ b, b < w.heap.size → b ≠ g → ba ≠ some b → w'.heap[b]? = w.heap[b]?) (hs : w.heap.size ≤ w'.heap.size) (how : w'.ownsRow base 86 6 v f.length (xs.set (n * 6 + 3) va'))
    (hat : w'.ownsRow B' 131 2 va' L'.length (Its.atCells L')) (hne : va'.ownBlock ≠ some g) (hsm : ∀ a ∈ L', a.name.size ≤ maxLen ∧ a.value.size ≤ maxLen) : OwnF 86 base w' v (f.set n { f[n] with attrs := L' }) := by
  have hk : ∀ b, (v.ownBlock ≠ some b ∧ ba ≠ some b) → b < w.heap.size → w'.heap[b]? = w.heap[b]? := fun b x hb => hkeep b hb (fun e => x.1 (by rw [hv, e])) x.2
  refine ⟨xs.set (n * 6 + 3) va', by rw [List.length_set]; exact how, fun i hi => ?_⟩
  rw [List.length_set] at hi
  by_cases e : i = n
  · subst e
    rw [List.getElem_set_self, take_set_eq (by decide)]
    obtain ⟨va, vk, e1, _, _, _, r, _, m⟩ := h3
    refine ⟨va', vk, ?_, Its.rows_attrs hat (fun b hb hb2 => hne (by rw [hb, ← hv, hb2])) hsm, r.keep hk hs (fun b x _ => x.1), m⟩
    rw [show (List.take 6 (List.drop (i * 6) xs)) = _ from e1]
    rfl
  · rw [List.getElem_set_ne (by omega), take_set_ne e (by decide)]
    exact (h2 i hi e).keep hk hs (fun b x _ => x.1)
/-- What copied leaves, seen from node n: its attrs are va, a row apart. -/
structure Sep (n base : Nat) (w : World) (g c : Nat) (f : Fo) (lt : n < f.length) (xs : List Value) (va : Value) : Prop where
  own : w.ownsRow base 86 6 (.slice (some ⟨g, 0, none⟩) f.length c) f.length xs
  rest : ∀ i (hi : i < f.length), i ≠ n → nodeS (fun b => (Value.slice (some ⟨g, 0, none⟩) f.length c).ownBlock ≠ some b ∧ va.ownBlock ≠ some b) w (cellsAt xs i) f[i]
  sp : SpN base w (.slice (some ⟨g, 0, none⟩) f.length c) va.ownBlock (cellsAt xs n) f[n]
  at_ : xs[n * 6 + 3]? = some va
  row : w.ownsRow base 131 2 va f[n].attrs.length (Its.atCells f[n].attrs)
  small : ∀ a ∈ f[n].attrs, a.name.size ≤ maxLen ∧ a.value.size ≤ maxLen
theorem OwnA.sep {n base : Nat} {w : World} {v : Value} {f : Fo} (h : OwnA n base w v f) (hn : n < f.length) : ∃ g c xs A ca, v = .slice (some ⟨g, 0, none⟩) f.length c ∧ Sep n base w g c f hn xs (.slice A f[n].attrs.length ca) ∧ base ≤ g ∧ g < w.heap.size ∧ f.length ≤ c ∧ c ≤ maxLen ∧ f[n].attrs.length ≤ ca ∧ ca ≤ maxLen := by
  obtain ⟨g, c, rfl, h1, h2, _, h3, h4⟩ := h.own.form (by omega)
  obtain ⟨xs, ba, how, hr, hsp, _⟩ := h
  have hs := hsp hn
  obtain ⟨va, vk, e, rfl, ha, q1, q2, q3, q4⟩ := hsp hn
  obtain ⟨A, ca, rfl⟩ := LShown.slice_of ha
  obtain ⟨_, _, e2, l1, l2⟩ := (Its.rows_attrs (S := fun _ => True) ha (fun _ _ => trivial) q3).form
  injection e2 with _ _ e2
  subst e2
  refine ⟨g, c, xs, A, ca, rfl, ⟨how, hr, hs, ?_, ha, q3⟩, h1, h2, h3, h4, l1, l2⟩
  have := congrArg (fun x => x[3]?) e
  simp only [List.getElem?_take, List.getElem?_drop] at this
  simpa using this
theorem Sep.cell {n base : Nat} {w : World} {g c : Nat} {f : Fo} {hn : n < f.length} {xs : List Value} {va : Value} (h : Sep n base w g c f hn xs va) : w.cell? ⟨g, n * 6 + 3, none⟩ = some va := by
  have := h.own.cells (g := g) rfl _ _ h.at_
  rwa [Addr.add_lit, Nat.zero_add] at this
theorem Sep.ne {n base : Nat} {w : World} {g c : Nat} {f : Fo} {hn : n < f.length} {xs : List Value} {va : Value} (h : Sep n base w g c f hn xs va) : va.ownBlock ≠ some g := fun e => h.sp.choose_spec.choose_spec.2.2.2.1 g e rfl
theorem set_same {xs : List Value} {i : Nat} {u : Value} (h : xs[i]? = some u) : xs.set i u = xs := by
  obtain ⟨hi, rfl⟩ := List.getElem?_eq_some_iff.1 h
  exact List.set_getElem_self hi
theorem Sep.inplace {n base : Nat} {w wr : World} {g c a ca k m : Nat} {f : Fo} {hn : n < f.length} {xs : List Value} {s tx : ByteArray} (h : Sep n base w g c f hn xs (.slice (some ⟨a, 0, none⟩) m ca)) (hb : Below w.heap.size w wr) (hk : k < f[n].attrs.length) (hnm : f[n].attrs[k].name = s) (htx : tx.size ≤ maxLen) :
    OwnF 86 base (wr.setCell ⟨a, k * 2 + 1, none⟩ (.string tx)) (.slice (some ⟨g, 0, none⟩) f.length c) (f.set n { f[n] with attrs := f[n].attrs.set k ⟨s, tx⟩ }) := by
  have hga : g ≠ a := fun e => h.ne (by rw [e]; rfl)
  have hlt := h.own.lt g rfl
  have hr : w.ownsRow base 131 2 (.slice (some ⟨a, 0, none⟩) m ca) f[n].attrs.length (Its.atCells f[n].attrs) := h.row
  have hm : m = f[n].attrs.length := by
    obtain ⟨A, c', e⟩ := LShown.slice_of hr
    injection e
  refine OwnA.put (va' := .slice (some ⟨a, 0, none⟩) m ca) (B' := base) h.own h.rest hn h.sp rfl (fun b hb1 hb2 hb3 => (Below.heap_setCell _ _ _ _ (fun e => hb3 (by rw [e]; rfl))).trans (hb.block b hb1)) (by have := hb.size; simpa [World.setCell] using this) ?_ ?_ h.ne ?_
  · rw [set_same h.at_]
    exact own_keep h.own (fun g' hg' => by injection hg' with hg'; subst hg'; exact (Below.heap_setCell _ _ _ _ hga).trans (hb.block _ hlt.2))
  · rw [atCells_set hk hnm, List.length_set]
    rw [hm] at hr
    suffices hg : (wr.setCell ⟨a, k * 2 + 1, none⟩ (.string tx)).ownsRow base 131 2 (.slice (some ⟨a, 0, none⟩) m ca) f[n].attrs.length ((Its.atCells f[n].attrs).set (k * 2 + 1) (.string tx)) from hg
    rw [hm]
    exact (World.ownsRow.stored (own_keep hr (fun g' hg' => hb.block g' (hr.lt g' hg').2)) _ _).1
  · intro x hx
    rcases List.mem_or_eq_of_mem_set hx with hx | rfl
    · exact h.small x hx
    · refine ⟨?_, htx⟩
      have := (h.small _ (List.getElem_mem hk)).1
      rwa [hnm] at this
theorem Sep.onto {n base : Nat} {w wr w8 : World} {g c : Nat} {f : Fo} {hn : n < f.length} {xs : List Value} {va va8 : Value} {s tx : ByteArray} {cs : Array Value} {T : TypeId} (h : Sep n base w g c f hn xs va) (hb : Below w.heap.size w wr) (hgr : (wr.alloc (.cells cs T)).grownBy w8 va.ownBlock)
    (hown : w8.ownsRow base 131 2 va8 (f[n].attrs.length + 1) (Its.atCells f[n].attrs ++ [.string s, .string tx])) (hat : va8.ownBlock = va.ownBlock ∨ va8.ownBlock = some (wr.alloc (.cells cs T)).heap.size) (hs : s.size ≤ maxLen) (htx : tx.size ≤ maxLen) :
    OwnF 86 base (w8.setCell ⟨g, n * 6 + 3, none⟩ va8) (.slice (some ⟨g, 0, none⟩) f.length c) (f.set n { f[n] with attrs := f[n].attrs ++ [⟨s, tx⟩] }) := by
  have hlt := h.own.lt g rfl
  have hws := hb.size
  have hne8 : va8.ownBlock ≠ some g := fun e => by
    rcases hat with e2 | e2
    · exact h.ne (e2.symm.trans e)
    · rw [e2] at e; injection e with e; simp at e; omega
  have hk8 : ∀ b, b < w.heap.size → va.ownBlock ≠ some b → w8.heap[b]? = w.heap[b]? := fun b hb1 hb2 => (hgr.block b (by simp; omega) (fun e => hb2 e.symm)).trans ((Below.heap_alloc _ _ _ (by omega)).trans (hb.block b hb1))
  refine OwnA.put (va' := va8) (B' := base) h.own h.rest hn h.sp rfl (fun b hb1 hb2 hb3 => (Below.heap_setCell w8 ⟨g, n * 6 + 3, none⟩ va8 b hb2).trans (hk8 b hb1 hb3)) (by have := hgr.size; simp at this; simp [World.setCell]; omega) ?_ ?_ hne8 ?_
  · exact (World.ownsRow.stored (own_keep h.own (fun g' hg' => by injection hg' with hg'; subst hg'; exact hk8 _ hlt.2 h.ne)) _ _).1
  · rw [Its.atCells_snoc, List.length_append]
    exact own_keep hown (fun g' hg' => Below.heap_setCell _ _ _ _ (fun e => hne8 (by have e2 : g' = g := e; rw [← e2]; exact hg')))
  · intro x hx
    rcases List.mem_append.1 hx with hx | hx
    · exact h.small x hx
    · rw [List.mem_singleton] at hx; subst hx; exact ⟨hs, htx⟩
set_option maxRecDepth 100000 in
set_option maxHeartbeats 4000000 in
theorem set_calls (w : World) (f : Fo) (v : Value) (o : Opn) (h : RdF w.heap.size w v f) (hm : mayB f = true) (hmo : mayO o = true) (hk : o.kind = 6) (hta : ∀ n ∈ f, n.attrs.length ≤ 1000) (hsn : o.name.size ≤ maxLen) (hst : o.text.size ≤ maxLen) :
    Calls Tryz.prog 65 #[v, opV o] w (RefPost f o w) := by
  obtain ⟨W0, hW0⟩ : ∃ W0, w.alloc (.cells #[.int .i64 o.kind, .int .i64 o.id, .int .i64 o.to, .int .i64 o.at_, .string o.name, .string o.text] 40) = W0 := ⟨_, rfl⟩
  have hrow : W0.heap[w.heap.size]? = some (.cells (OpMay.opRow o) 40 (0, 0)) := by rw [← hW0]; exact World.alloc_heap_new w _
  have hb0 : Below w.heap.size w W0 := by rw [← hW0]; exact (Below.refl _ _).alloc (Nat.le_refl _) _
  have hbox := fun w' (hb : Below W0.heap.size W0 w') => rop_cells ((hb.block w.heap.size (lt_heap hrow)).trans hrow)
  have hrd := fun w' (hb : Below w.heap.size w w') => (h.below nodeE_keeps (w' := w') hb (Nat.le_refl _)).mono nodeE_keeps hb.size
  have hcp := fun w' (hb : Below w.heap.size w w') => copied_callsA o.id.toNat w' _ f (hrd w' hb) (by have := (may_len hm).2; omega) hta (fun n hn => by have := Work.may_kids hm n hn; omega)
  have hlen := may_len hm
  obtain ⟨A0, c0, rfl, hl0, hc0, h'⟩ := h.form
  simp only [maxLen] at hc0
  obtain ⟨z0, z1, z2, z3, z4, z5, zf⟩ := hbox W0 (Below.refl _ _)
  have hE := set_E (f := f) hmo hk
  have herr := fun (E : Int) (he : oneE f o = E) (h0 : E ≠ 0) => one_err (f := f) (o := o) (by rw [he]; exact h0)
  have hdo : oneE f o = 0 → oneF f o = f.set o.id.toNat { at_ f o.id with attrs := setA (at_ f o.id).attrs o.name o.text } := fun e => by
    unfold oneF doF
    rw [if_pos e, if_neg (by omega), if_neg (by omega), if_neg (by omega), if_pos hk]
  have hs0 : W0.heap.size = w.heap.size + 1 := by rw [← hW0]; simp
  have hN := fun w => R2.Name_calls o.name (by simpa [maxLen] using hsn) w
  have hT := fun w => R2.Text_calls o.text w
  have HN := Lib.hid hN; have HT := Lib.hid hT
  have Hs0 := Lib.hid hs0
  clear hs0 hN hT
  have HW0 := Lib.hid hW0; have HB0 := Lib.hid hb0; have Hbox := Lib.hid hbox; have Hrd := Lib.hid hrd; have Hcp := Lib.hid hcp; have Hdo := Lib.hid hdo; have Herr := Lib.hid herr
  clear hW0 hb0 hbox hrd hcp hdo herr hrow h h' hk
  by_cases hn : isNode f o.id = true
  · rw [if_pos hn] at hE
    obtain ⟨n, hid, hnl⟩ := node_nat hn
    have hpl := ((may_is hm).node n hnl).1
    obtain ⟨b, q, _, _, _, _, hA, _, g0, _, _, _, _, _, _, _, _, _, _, _, _, _, _, _⟩ := node_at (Hrd.out W0 HB0.out) hnl
    subst hA
    unfold hasA at hE
    rw [hid, atN hnl] at hE
    rw [atN hnl] at hpl
    have hnI : (n : Int) < (f.length : Int) := by omega
    have hn0 : (0 : Int) ≤ (n : Int) := by omega
    have Hid' := Lib.hid hid
    rw [hid] at z1
    by_cases hk1 : f[n].kind = 1
    · have hb1 : (f[n].kind == 1) = true := by rw [beq_iff_eq]; exact hk1
      rw [if_pos hb1] at hE
      have hat : attrsB f[n].attrs = true := by
        unfold plainB at hpl
        rw [if_neg (by omega), if_pos hk1] at hpl
        simp only [Bool.and_eq_true] at hpl
        exact hpl.2
      have hl8 := ((attrsB_iff _).1 hat).2.2
      have hF0 := Hdo.out
      rw [hid, Int.toNat_natCast, atN hnl] at hF0
      have hkb : (f[n].kind != 1) = false := by rw [bne_eq_false_iff_eq]; exact hk1
      have HE := Lib.hid hE; have HF0 := Lib.hid hF0
      rw [hk1] at g0
      clear hE hF0 hn hm hmo hpl hat hb1 hkb
      unfold namedB at HE
      cases hnm : nameB o.name.data.toList with
      | false =>
        rw [hnm] at HN HE
        have hE := HE.out
        rw [Bool.false_and, if_neg (by decide)] at hE
        have hF := Herr.out 74 hE (by decide)
        have HE := Lib.hid hE; have HF := Lib.hid hF
        clear hE hF hnm hid
        go_enter Tryz.func65, Tryz.ntmps65
        go_upto_region 1 with fail
        rw [HW0.out]
        go_wp2_with (go_at_call 61; (with_reducible refine (HN.out _).mono ?_); rintro e w5 ⟨rfl, rfl⟩)
        go_ret2
        exact ⟨_, by rw [HE.out]; rfl, by rw [HF.out]; exact Hrd.out _ HB0.out, HB0.out⟩
      | true =>
        rw [hnm] at HN HE
        rw [Bool.true_and] at HE
        cases htx : textB o.text.data.toList with
        | false =>
          rw [htx] at HT HE
          have hE := HE.out
          rw [if_neg (by decide)] at hE
          have hF := Herr.out 74 hE (by decide)
          have HE := Lib.hid hE; have HF := Lib.hid hF
          clear hE hF hnm htx hid
          go_enter Tryz.func65, Tryz.ntmps65
          go_upto_region 1 with fail
          rw [HW0.out]
          go_wp2_with (first | (go_at_call 61; (with_reducible refine (HN.out _).mono ?_); rintro e w5 ⟨rfl, rfl⟩) | (go_at_call 62; (with_reducible refine (HT.out _).mono ?_); rintro e w5 ⟨rfl, rfl⟩))
          go_ret2
          exact ⟨_, by rw [HE.out]; rfl, by rw [HF.out]; exact Hrd.out _ HB0.out, HB0.out⟩
        | true =>
          rw [htx] at HT HE
          have hE := HE.out
          rw [if_pos rfl] at hE
          have HE := Lib.hid hE
          clear hE hnm htx
          rw [hid, Int.toNat_natCast] at Hcp
          clear hid
          go_enter Tryz.func65, Tryz.ntmps65
          go_upto_region 1 with fail
          rw [HW0.out]
          go_upto_region 8 with (first | (go_at_call 61; (with_reducible refine (HN.out _).mono ?_); rintro e w5 ⟨rfl, rfl⟩) | (go_at_call 62; (with_reducible refine (HT.out _).mono ?_); rintro e w5 ⟨rfl, rfl⟩) | (go_at_call 132; (with_reducible refine (Hcp.out _ HB0.out).mono ?_); rintro e w6 ⟨u6, rfl, ho6, hb6⟩; have Ho6 := Lib.hid ho6; have Hb6 := Lib.hid hb6; clear ho6 hb6))
          obtain ⟨g, c6, xs, Aa, ca, rfl, hsep, hg1, hg2, hg3, hg4, hca1, hca2⟩ := Ho6.out.sep hnl
          simp only [maxLen] at hg4 hca2
          have k3 := hsep.cell
          have hgw : w.heap.size ≤ g := by have := Hs0.out; omega
          obtain ⟨L, hL⟩ : ∃ L, L = f[n].attrs := ⟨_, rfl⟩
          obtain ⟨s, hs⟩ : ∃ s, s = o.name := ⟨_, rfl⟩
          obtain ⟨tx, htx⟩ : ∃ tx, tx = o.text := ⟨_, rfl⟩
          have hinp : ∀ wr k (hk : k < L.length), Below w6.heap.size w6 wr → ∀ a, Aa = some ⟨a, 0, none⟩ → L[k].name = s → OwnF 86 W0.heap.size (wr.setCell ⟨a, k * 2 + 1, none⟩ (.string tx)) (.slice (some ⟨g, 0, none⟩) f.length c6) (f.set n { f[n] with attrs := L.set k ⟨s, tx⟩ }) := by
            subst hL hs htx
            intro wr k hk hb' a e hnn
            subst e
            exact Sep.inplace hsep hb' hk hnn hst
          have hont : ∀ wr w8 va8 (cs : Array Value) T, Below w6.heap.size w6 wr → (wr.alloc (.cells cs T)).grownBy w8 (Value.slice Aa L.length ca).ownBlock → w8.ownsRow W0.heap.size 131 2 va8 (L.length + 1) (Its.atCells L ++ [.string s, .string tx]) → (va8.ownBlock = (Value.slice Aa L.length ca).ownBlock ∨ va8.ownBlock = some (wr.alloc (.cells cs T)).heap.size) →
              OwnF 86 W0.heap.size (w8.setCell ⟨g, n * 6 + 3, none⟩ va8) (.slice (some ⟨g, 0, none⟩) f.length c6) (f.set n { f[n] with attrs := L ++ [⟨s, tx⟩] }) := by
            subst hL hs htx
            intro wr w8 va8 cs T hb' hgr hown hat
            exact Sep.onto hsep hb' hgr hown hat hsn hst
          have hrow6 := hsep.row
          have hne := hsep.ne
          clear z0 z1 z2 z3 z4 z5 zf g0 Ho6
          have hkeep := fun w' (hb' : Below w6.heap.size w6 w') => (⟨(Hbox.out w' (bthen Hb6.out hb')).2.1, (Hbox.out w' (bthen Hb6.out hb')).2.2.2.2.1, (Hbox.out w' (bthen Hb6.out hb')).2.2.2.2.2.1, cell_grow hb' k3⟩ : w'.cell? ⟨w.heap.size, 1, none⟩ = some (.int .i64 o.id) ∧ w'.cell? ⟨w.heap.size, 4, none⟩ = some (.string o.name) ∧ w'.cell? ⟨w.heap.size, 5, none⟩ = some (.string o.text) ∧ w'.cell? ⟨g, n * 6 + 3, none⟩ = some (.slice Aa f[n].attrs.length ca))
          rw [Hid'.out] at hkeep
          have Hkeep := Lib.hid hkeep; have Hinp := Lib.hid hinp; have Hont := Lib.hid hont; have Hsep := Lib.hid hsep
          clear hkeep hinp hont hsep k3
          rw [← hL] at Hkeep hl8 hca1 hrow6 HE HF0 hne
          rw [← hs] at Hkeep HE HF0
          rw [← htx] at Hkeep HF0
          have hb3 := fun w' (hb' : Below W0.heap.size W0 w') => (⟨(Hbox.out w' hb').2.1, (Hbox.out w' hb').2.2.2.2.1, (Hbox.out w' hb').2.2.2.2.2.1⟩ : w'.cell? ⟨w.heap.size, 1, none⟩ = some (.int .i64 o.id) ∧ w'.cell? ⟨w.heap.size, 4, none⟩ = some (.string o.name) ∧ w'.cell? ⟨w.heap.size, 5, none⟩ = some (.string o.text))
          rw [Hid'.out, ← hs, ← htx] at hb3
          have Hb3 := Lib.hid hb3
          clear hb3
          have HrowL := Lib.hid hrow6; have Hgw := Lib.hid hgw; have Hne := Lib.hid hne
          clear hrow6 hne hL hs htx
          obtain ⟨i1, hi1, hy0, hy1, hy2⟩ := info_parts Its.info_rattr
          go_wp2_with fail
          go_loopw [7] (fun i wr => ∃ k : Nat, k ≤ L.length ∧ i = .int .i64 k ∧ Hid (∀ j (hj : j < L.length), j < k → L[j].name ≠ s) ∧ Below w6.heap.size w6 wr) (fun i _ => L.length - (intOf i).toNat)
          case atStart => exact ⟨0, Nat.zero_le _, rfl, Lib.hid (fun j _ hj => absurd hj (Nat.not_lt_zero _)), Below.refl _ _⟩
          case round =>
            obtain ⟨k, hk, rfl, hno, hb⟩ := hrel
            obtain ⟨q1, q4, q5, q3⟩ := Hkeep.out wr hb
            by_cases hlt : k < L.length
            · obtain ⟨a, e⟩ : ∃ a, Aa = some ⟨a, 0, none⟩ := by
                rcases HrowL.out.2 with ⟨e1, e2⟩ | ⟨g', cap', cur', e1, _⟩
                · omega
                · injection e1 with e1; exact ⟨g', e1⟩
              subst e
              have hrw := own_keep HrowL.out (w' := wr) (fun g' hg' => hb.block g' (HrowL.out.lt g' hg').2)
              have y0 := hrw.cells (g := a) rfl _ _ (atCells_get hlt).1
              have y1 := hrw.cells (g := a) rfl _ _ (atCells_get hlt).2
              rw [Addr.add_lit, Nat.zero_add] at y0 y1
              have hfz : wr.frozen? ⟨a, k * 2 + 1, none⟩ = false := by
                rcases hrw.2 with ⟨e1, e2⟩ | ⟨g', cap', cur', e1, _, hh, _⟩
                · omega
                · injection e1 with e1; injection e1 with e1; injection e1 with e1; subst e1; exact free_of hh _
              clear hrw
              have Hb := Lib.hid hb
              clear hb
              by_cases hx : L[k].name = s
              · have hfd := findA_at hlt hx hno.out
                have hE := HE.out
                rw [hfd] at hE
                have hE' : oneE f o = 0 := by rw [hE]; rfl
                have hF := HF0.out hE'
                unfold setA at hF
                rw [hfd] at hF
                simp only at hF
                have hin := fun wr hb' => Hinp.out wr k hlt hb' a rfl hx
                have HE2 := Lib.hid hE'; have HF2 := Lib.hid hF; have Hin := Lib.hid hin
                have hxb : (L[k].name.toList == s.toList) = true := by rw [FSame.str_beq]; exact decide_eq_true hx
                clear hE hE' hF hin hfd hx hno
                generalize L[k].name = xn at *
                generalize L[k].value = xv at *
                go_wp2_with fail
                go_region
                obtain ⟨WR, hWR⟩ : ∃ WR, WR = wr.drew := ⟨_, rfl⟩
                rw [← hWR]
                have HbX : Hid (Below w6.heap.size w6 WR) := Lib.hid (by rw [hWR]; exact Hb.out.drew)
                have x1 : WR.cell? ⟨a, k * 2 + 1, none⟩ = some (.string xv) := by rw [hWR]; exact y1
                have xf : WR.frozen? ⟨a, k * 2 + 1, none⟩ = false := by rw [hWR]; exact hfz
                obtain ⟨p1, p4, p5, p3⟩ := Hkeep.out WR HbX.out
                clear hWR y0 y1 hfz q1 q4 q5 q3
                go_wp2_with fail
                go_region
                go_wp2_with fail
                go_ret2
                refine ⟨_, by rw [HE2.out]; rfl, ?_, ?_⟩
                · rw [HF2.out]
                  exact (Hin.out WR HbX.out).rd
                · have ha : w.heap.size ≤ a := by have := (HrowL.out.lt a rfl).1; have := Hs0.out; omega
                  exact ((bthen HB0.out (bthen Hb6.out HbX.out)).setCell ha _).drew
              · have hxb : (L[k].name.toList == s.toList) = false := by rw [FSame.str_beq]; exact decide_eq_false hx
                have hno2 : ∀ j (hj : j < L.length), j < k + 1 → L[j].name ≠ s := fun j hj hjk => by
                  by_cases e : j = k
                  · subst e; exact hx
                  · exact hno.out j hj (by omega)
                have Hno2 := Lib.hid hno2
                clear hno2 hx hno hfz y1
                generalize L[k].name = xn at *
                go_wp2_with fail
                go_region
                go_wp2_with fail
                go_roundw
                case rel => exact ⟨k + 1, by omega, by go_num, Hno2, Hb.out.drew⟩
                case measure => simp [intOf]; omega
            · obtain rfl : k = L.length := by omega
              have hfd := findA_no (fun j hj => hno.out j hj hj)
              have hE := HE.out
              rw [hfd] at hE
              have Hb := Lib.hid hb
              clear hb hno hlt hk
              by_cases h8 : L.length = 8
              · have hE' : oneE f o = 75 := by rw [hE, h8]; rfl
                have hF := Herr.out 75 hE' (by decide)
                have h8b : ((L.length : Int) == 8) = true := by rw [beq_iff_eq, h8]; rfl
                have HE2 := Lib.hid hE'; have HF2 := Lib.hid hF
                clear hE hE' hF hfd h8
                go_wp2_with fail
                go_ret2
                exact ⟨_, by rw [HE2.out]; rfl, by rw [HF2.out]; exact Hrd.out _ (bthen HB0.out (bthen Hb6.out Hb.out)), bthen HB0.out (bthen Hb6.out Hb.out)⟩
              · have hE' : oneE f o = 0 := by rw [hE, decide_eq_true (show L.length < 8 by omega)]; rfl
                have hF := HF0.out hE'
                unfold setA at hF
                rw [hfd] at hF
                simp only at hF
                have h8b : ((L.length : Int) == 8) = false := by rw [beq_eq_false_iff_ne]; omega
                have HE2 := Lib.hid hE'; have HF2 := Lib.hid hF
                have hon := fun w8 va8 (cs : Array Value) T hgr hown hat => Hont.out wr.drew w8 va8 cs T Hb.out.drew hgr hown hat
                have Hon := Lib.hid hon
                have hgb : ∀ j, wr.frozen? ⟨g, j, none⟩ = false := fun j => by
                  have := (own_keep Hsep.out.own (w' := wr) (fun g' hg' => Hb.out.block g' (Hsep.out.own.lt g' hg').2))
                  rcases this.2 with ⟨e1, e2⟩ | ⟨g', cap', cur', e1, _, hh, _⟩
                  · omega
                  · injection e1 with e1; injection e1 with e1; injection e1 with e1; subst e1; exact free_of hh _
                have Hgb := Lib.hid hgb
                clear hE hE' hF hfd hon h8 hgb
                go_upto_region 16 with fail
                have hrw : wr.ownsRow W0.heap.size 131 2 (.slice Aa L.length ca) L.length (Its.atCells L) := own_keep HrowL.out (fun g' hg' => Hb.out.block g' (HrowL.out.lt g' hg').2)
                have kf3 := Hgb.out (n * 6 + 3)
                have Hrw := Lib.hid hrw
                have hbd : Below w6.heap.size w6 wr.drew := Hb.out.drew
                obtain ⟨qd1, qd4, qd5, qd3⟩ := Hkeep.out wr.drew hbd
                obtain ⟨qa1, qa4, qa5, qa3⟩ := Hkeep.out (wr.drew.alloc (.cells #[.string s, .string tx] 131)) (hbd.alloc hbd.size _)
                obtain ⟨qb1, qb4, qb5, qb3⟩ := Hkeep.out (wr.alloc (.cells #[.string s, .string tx] 131)) (Hb.out.alloc Hb.out.size _)
                have Hbd := Lib.hid hbd
                clear hrw hbd q1 q4 q5
                refine wp_region_held_drew (S := (fun w' => w'.cell? ⟨w.heap.size, 1, none⟩ = some (.int .i64 (n : Int)) ∧ w'.cell? ⟨w.heap.size, 4, none⟩ = some (.string s) ∧ w'.cell? ⟨w.heap.size, 5, none⟩ = some (.string tx))) (by kernel_rfl) ⟨qd1, qd4, qd5⟩ (fun hHeld => ?_)
                refine' wpAnyH_take (i := 0) (v := ?v0) rfl (by kernel_rfl) (by kernel_rfl) (by kernel_rfl) (fun _ _ _ h => h) (Or.inl ⟨by rfl, ?hy0⟩) (by assumption) ?rest0
                case hy0 => (intro w hSw; (try dsimp only at hSw); go_simp; (try with_reducible rfl))
                (try simp only [Act.put, List.setIfInBounds_toArray, List.set_cons_zero, List.set_cons_succ])
                refine' wpAnyH_take (i := 1) (v := ?v1) rfl (by kernel_rfl) (by kernel_rfl) (by kernel_rfl) (fun _ _ _ h => h) (Or.inl ⟨by rfl, ?hy1⟩) (by assumption) ?rest1
                case hy1 => (intro w hSw; (try dsimp only at hSw); go_simp; (try with_reducible rfl))
                (try simp only [Act.put, List.setIfInBounds_toArray, List.set_cons_zero, List.set_cons_succ])
                refine' wpAnyH_take (i := 2) (v := ?v2) rfl (by kernel_rfl) (by kernel_rfl) (by kernel_rfl) (fun _ _ _ h => h) (Or.inl ⟨by rfl, ?hy2⟩) (by assumption) ?rest2
                case hy2 => (intro w hSw; (try dsimp only at hSw); go_simp; (try with_reducible rfl))
                (try simp only [Act.put, List.setIfInBounds_toArray, List.set_cons_zero, List.set_cons_succ])
                refine' wpAnyH_take (i := 3) (v := ?v3) rfl (by kernel_rfl) (by kernel_rfl) (by kernel_rfl) (fun _ _ _ h => h) (Or.inl ⟨by rfl, ?hy3⟩) (by assumption) ?rest3
                case hy3 => (intro w hSw; (try dsimp only at hSw); go_simp; (try with_reducible rfl))
                (try simp only [Act.put, List.setIfInBounds_toArray, List.set_cons_zero, List.set_cons_succ])
                refine' wpAnyH_take (i := 4) (v := ?v4) rfl (by kernel_rfl) (by kernel_rfl) (by kernel_rfl) (fun _ _ _ h => h) (Or.inl ⟨by rfl, ?hy4⟩) (by assumption) ?rest4
                case hy4 => (intro w hSw; (try dsimp only at hSw); go_simp; (try with_reducible rfl))
                (try simp only [Act.put, List.setIfInBounds_toArray, List.set_cons_zero, List.set_cons_succ])
                refine' wpAnyH_take (i := 5) (v := ?v5) rfl (by kernel_rfl) (by kernel_rfl) (by kernel_rfl) (fun _ _ _ h => h) (Or.inl ⟨by rfl, ?hy5⟩) (by assumption) ?rest5
                case hy5 => (intro w hSw; (try dsimp only at hSw); go_simp; (try with_reducible rfl))
                (try simp only [Act.put, List.setIfInBounds_toArray, List.set_cons_zero, List.set_cons_succ])
                refine' wpAnyH_take (i := 6) (v := ?v6) rfl (by kernel_rfl) (by kernel_rfl) (by kernel_rfl) (fun _ _ _ h => h) (Or.inl ⟨by rfl, ?hy6⟩) (by assumption) ?rest6
                case hy6 => (intro w hSw; (try dsimp only at hSw); go_simp; (try with_reducible rfl))
                (try simp only [Act.put, List.setIfInBounds_toArray, List.set_cons_zero, List.set_cons_succ])
                refine' wpAnyH_take (i := 7) (v := ?v7) rfl (by kernel_rfl) (by kernel_rfl) (by kernel_rfl) (fun _ _ _ h => h) (Or.inl ⟨by rfl, ?hy7⟩) (by assumption) ?rest7
                case hy7 => (intro w hSw; (try dsimp only at hSw); go_simp; (try with_reducible rfl))
                (try simp only [Act.put, List.setIfInBounds_toArray, List.set_cons_zero, List.set_cons_succ])
                refine' wpAnyH_take (i := 9) (v := ?v9) rfl (by kernel_rfl) (by kernel_rfl) (by kernel_rfl) (fun _ _ _ h => h) (Or.inl ⟨by rfl, ?hy9⟩) (by assumption) ?rest9
                case hy9 => (intro w hSw; (try dsimp only at hSw); go_simp; (try with_reducible rfl))
                (try simp only [Act.put, List.setIfInBounds_toArray, List.set_cons_zero, List.set_cons_succ])
                refine' wpAnyH_take (i := 10) (v := ?v10) rfl (by kernel_rfl) (by kernel_rfl) (by kernel_rfl) (fun _ _ _ h => h) (Or.inl ⟨by rfl, ?hy10⟩) (by assumption) ?rest10
                case hy10 => (intro w hSw; (try dsimp only at hSw); go_simp; (try with_reducible rfl))
                (try simp only [Act.put, List.setIfInBounds_toArray, List.set_cons_zero, List.set_cons_succ])
                refine' wpAnyH_take (i := 11) (v := ?v11) rfl (by kernel_rfl) (by kernel_rfl) (by kernel_rfl) (fun _ _ _ h => h) (Or.inl ⟨by rfl, ?hy11⟩) (by assumption) ?rest11
                case hy11 => (intro w hSw; (try dsimp only at hSw); go_simp; (try with_reducible rfl))
                (try simp only [Act.put, List.setIfInBounds_toArray, List.set_cons_zero, List.set_cons_succ])
                refine' wpAnyH_take (i := 12) (v := ?v12) rfl (by kernel_rfl) (by kernel_rfl) (by kernel_rfl) (fun _ _ _ h => h) (Or.inl ⟨by rfl, ?hy12⟩) (by assumption) ?rest12
                case hy12 => (intro w hSw; (try dsimp only at hSw); go_simp; (try with_reducible rfl))
                (try simp only [Act.put, List.setIfInBounds_toArray, List.set_cons_zero, List.set_cons_succ])
                refine' wpAnyH_take (i := 13) (v := ?v13) rfl (by kernel_rfl) (by kernel_rfl) (by kernel_rfl) (fun _ _ _ h => h) (Or.inl ⟨by rfl, ?hy13⟩) (by assumption) ?rest13
                case hy13 => (intro w hSw; (try dsimp only at hSw); go_simp; (try with_reducible rfl))
                (try simp only [Act.put, List.setIfInBounds_toArray, List.set_cons_zero, List.set_cons_succ])
                refine wpAnyH_ready (rs := [8, 14]) (by kernel_rfl) (by simp) ?_
                refine AllReadyH.cons rfl (fun K hK => ?_) (AllReadyH.cons rfl (fun K hK => ?_) AllReadyH.nil)
                · go_simp
                  refine hK.out _ _ ⟨qd1, qd4, qd5⟩ (fun hHeld => ?_)
                  clear hK K
                  (try simp only [Act.put, List.setIfInBounds_toArray, List.set_cons_zero, List.set_cons_succ])
                  refine wpAnyH_ready (rs := [14]) (by kernel_rfl) (by simp) ?_
                  refine AllReadyH.cons rfl (fun K hK => ?_) AllReadyH.nil
                  go_simp
                  refine hK.out _ _ ⟨qa1, qa4, qa5⟩ (fun hHeld => ?_)
                  clear hK K
                  (try simp only [Act.put, List.setIfInBounds_toArray, List.set_cons_zero, List.set_cons_succ])
                  refine wpAnyH_ready (rs := [15]) (by kernel_rfl) (by simp) ?_
                  refine AllReadyH.cons rfl (fun K hK => ?_) AllReadyH.nil
                  refine step_append_lies _ rfl (.tmp 96) (.tmp 102) 84 rfl W0.heap.size 131 i1 _ 2 32 Tryz.underlying84 hi1 hy0 hy1 hy2 rfl (by decide) (.slice Aa L.length ca) L.length (Its.atCells L) (by simp [Act.eval, Act.put]) (Hrw.out.drew.alloc _) ⟨wr.heap.size, 0, none⟩ 1 1 [.string s, .string tx] (by simp [Act.eval, Act.put]) rfl (World.news_of_block (cs := #[.string s, .string tx]) (t := 131) (fr := (0, 0)) (heap_alloc_new wr.drew _)) (by simp [Value.oneCell']) (by omega) (by simp only [maxLen]; omega) (by omega) (by simp; have := Hb.out.size; have := Hb6.out.size; omega) (wr.heap.size + 1) (by simp) ?_
                  intro g8 cap8 w8 hown8 hgrow8 hat8 hlt8
                  have hg8 : w8.heap[g]? = wr.heap[g]? := (hgrow8.block g (by have := Hb.out.size; simp; omega) (fun e => Hne.out e.symm)).trans (Below.heap_alloc wr.drew _ _ (by have := Hb.out.size; simp; omega))
                  have k8 := (cell_same hg8 (n * 6 + 3)).trans q3
                  have k8f : w8.frozen? ⟨g, n * 6 + 3, none⟩ = false := by
                    have := kf3
                    simp only [World.frozen?, hg8] at this ⊢
                    exact this
                  have hb8 : Below W0.heap.size W0 w8 := FTops.grown_below ((bthen Hb6.out Hbd.out).alloc (by have := (bthen Hb6.out Hbd.out).size; omega) _) hgrow8 (Hrw.out.drew.alloc _) (Nat.le_refl _)
                  have y8 := Hb3.out w8 hb8
                  have y9 := Hb3.out (w8.setCell ⟨g, n * 6 + 3, none⟩ (.slice (some ⟨g8, 0, none⟩) (L.length + 1) cap8)) (hb8.setCell hg1 _)
                  have Hown8 := Lib.hid hown8; have Hgrow8 := Lib.hid hgrow8; have Hat8 := Lib.hid hat8; have Y9 := Lib.hid y9
                  clear hown8 hgrow8 hat8 hg8 hb8 y9
                  refine hK.out _ _ y8 (fun hHeld => ?_)
                  clear hK K
                  (try simp only [Act.put, List.setIfInBounds_toArray, List.set_cons_zero, List.set_cons_succ])
                  refine' wpAnyH_take (i := 16) (v := ?v16) rfl (by kernel_rfl) (by kernel_rfl) (by kernel_rfl) (fun _ _ _ h => h) (Or.inl ⟨by rfl, ?hy16⟩) (by assumption) ?rest16
                  case hy16 => (intro w hSw; (try dsimp only at hSw); go_simp; (try with_reducible rfl))
                  (try simp only [Act.put, List.setIfInBounds_toArray, List.set_cons_zero, List.set_cons_succ])
                  refine' wpAnyH_take (i := 17) (v := ?v17) rfl (by kernel_rfl) (by kernel_rfl) (by kernel_rfl) (fun _ _ _ h => h) (Or.inl ⟨by rfl, ?hy17⟩) (by assumption) ?rest17
                  case hy17 => (intro w hSw; (try dsimp only at hSw); go_simp; (try with_reducible rfl))
                  (try simp only [Act.put, List.setIfInBounds_toArray, List.set_cons_zero, List.set_cons_succ])
                  refine wpAnyH_ready (rs := [18]) (by kernel_rfl) (by simp) ?_
                  refine AllReadyH.cons rfl (fun K hK => ?_) AllReadyH.nil
                  go_simp
                  refine hK.out _ _ Y9.out (fun hHeld => ?_)
                  clear hK K
                  (try simp only [Act.put, List.setIfInBounds_toArray, List.set_cons_zero, List.set_cons_succ])
                  refine wpAnyH_done (by kernel_rfl) ?_ _
                  have hat8 : (Value.slice (some ⟨g8, 0, none⟩) (L.length + 1) cap8).ownBlock = (Value.slice Aa L.length ca).ownBlock ∨ (Value.slice (some ⟨g8, 0, none⟩) (L.length + 1) cap8).ownBlock = some (wr.drew.alloc (.cells #[.string s, .string tx] 131)).heap.size := by
                    rcases Hat8.out with e | e
                    · exact .inl e.symm
                    · exact .inr (by rw [e]; simp [Value.ownBlock])
                  have hfin := Hon.out _ _ _ _ Hgrow8.out Hown8.out hat8
                  have hbf : Below w.heap.size w w8 := FTops.grown_below ((bthen HB0.out (bthen Hb6.out Hbd.out)).alloc (by have := (bthen HB0.out (bthen Hb6.out Hbd.out)).size; omega) _) Hgrow8.out (Hrw.out.drew.alloc _) (by have := Hs0.out; omega)
                  have Hfin := Lib.hid hfin; have Hbf := Lib.hid hbf
                  clear hfin hbf hat8
                  go_wp2_with fail
                  go_ret2
                  exact ⟨_, by rw [HE2.out]; rfl, by rw [HF2.out]; exact Hfin.out.rd, Hbf.out.setCell hgw _⟩
                · go_simp
                  refine hK.out _ _ ⟨qa1, qa4, qa5⟩ (fun hHeld => ?_)
                  clear hK K
                  (try simp only [Act.put, List.setIfInBounds_toArray, List.set_cons_zero, List.set_cons_succ])
                  refine wpAnyH_ready (rs := [8]) (by kernel_rfl) (by simp) ?_
                  refine AllReadyH.cons rfl (fun K hK => ?_) AllReadyH.nil
                  go_simp
                  refine hK.out _ _ ⟨qa1, qa4, qa5⟩ (fun hHeld => ?_)
                  clear hK K
                  (try simp only [Act.put, List.setIfInBounds_toArray, List.set_cons_zero, List.set_cons_succ])
                  refine wpAnyH_ready (rs := [15]) (by kernel_rfl) (by simp) ?_
                  refine AllReadyH.cons rfl (fun K hK => ?_) AllReadyH.nil
                  refine step_append_lies _ rfl (.tmp 96) (.tmp 102) 84 rfl W0.heap.size 131 i1 _ 2 32 Tryz.underlying84 hi1 hy0 hy1 hy2 rfl (by decide) (.slice Aa L.length ca) L.length (Its.atCells L) (by simp [Act.eval, Act.put]) (Hrw.out.drew.alloc _) ⟨wr.heap.size, 0, none⟩ 1 1 [.string s, .string tx] (by simp [Act.eval, Act.put]) rfl (World.news_of_block (cs := #[.string s, .string tx]) (t := 131) (fr := (0, 0)) (heap_alloc_new wr.drew _)) (by simp [Value.oneCell']) (by omega) (by simp only [maxLen]; omega) (by omega) (by simp; have := Hb.out.size; have := Hb6.out.size; omega) (wr.heap.size + 1) (by simp) ?_
                  intro g8 cap8 w8 hown8 hgrow8 hat8 hlt8
                  have hg8 : w8.heap[g]? = wr.heap[g]? := (hgrow8.block g (by have := Hb.out.size; simp; omega) (fun e => Hne.out e.symm)).trans (Below.heap_alloc wr.drew _ _ (by have := Hb.out.size; simp; omega))
                  have k8 := (cell_same hg8 (n * 6 + 3)).trans q3
                  have k8f : w8.frozen? ⟨g, n * 6 + 3, none⟩ = false := by
                    have := kf3
                    simp only [World.frozen?, hg8] at this ⊢
                    exact this
                  have hb8 : Below W0.heap.size W0 w8 := FTops.grown_below ((bthen Hb6.out Hbd.out).alloc (by have := (bthen Hb6.out Hbd.out).size; omega) _) hgrow8 (Hrw.out.drew.alloc _) (Nat.le_refl _)
                  have y8 := Hb3.out w8 hb8
                  have y9 := Hb3.out (w8.setCell ⟨g, n * 6 + 3, none⟩ (.slice (some ⟨g8, 0, none⟩) (L.length + 1) cap8)) (hb8.setCell hg1 _)
                  have Hown8 := Lib.hid hown8; have Hgrow8 := Lib.hid hgrow8; have Hat8 := Lib.hid hat8; have Y9 := Lib.hid y9
                  clear hown8 hgrow8 hat8 hg8 hb8 y9
                  refine hK.out _ _ y8 (fun hHeld => ?_)
                  clear hK K
                  (try simp only [Act.put, List.setIfInBounds_toArray, List.set_cons_zero, List.set_cons_succ])
                  refine' wpAnyH_take (i := 16) (v := ?v16b) rfl (by kernel_rfl) (by kernel_rfl) (by kernel_rfl) (fun _ _ _ h => h) (Or.inl ⟨by rfl, ?hy16b⟩) (by assumption) ?rest16b
                  case hy16b => (intro w hSw; (try dsimp only at hSw); go_simp; (try with_reducible rfl))
                  (try simp only [Act.put, List.setIfInBounds_toArray, List.set_cons_zero, List.set_cons_succ])
                  refine' wpAnyH_take (i := 17) (v := ?v17b) rfl (by kernel_rfl) (by kernel_rfl) (by kernel_rfl) (fun _ _ _ h => h) (Or.inl ⟨by rfl, ?hy17b⟩) (by assumption) ?rest17b
                  case hy17b => (intro w hSw; (try dsimp only at hSw); go_simp; (try with_reducible rfl))
                  (try simp only [Act.put, List.setIfInBounds_toArray, List.set_cons_zero, List.set_cons_succ])
                  refine wpAnyH_ready (rs := [18]) (by kernel_rfl) (by simp) ?_
                  refine AllReadyH.cons rfl (fun K hK => ?_) AllReadyH.nil
                  go_simp
                  refine hK.out _ _ Y9.out (fun hHeld => ?_)
                  clear hK K
                  (try simp only [Act.put, List.setIfInBounds_toArray, List.set_cons_zero, List.set_cons_succ])
                  refine wpAnyH_done (by kernel_rfl) ?_ _
                  have hat8 : (Value.slice (some ⟨g8, 0, none⟩) (L.length + 1) cap8).ownBlock = (Value.slice Aa L.length ca).ownBlock ∨ (Value.slice (some ⟨g8, 0, none⟩) (L.length + 1) cap8).ownBlock = some (wr.drew.alloc (.cells #[.string s, .string tx] 131)).heap.size := by
                    rcases Hat8.out with e | e
                    · exact .inl e.symm
                    · exact .inr (by rw [e]; simp [Value.ownBlock])
                  have hfin := Hon.out _ _ _ _ Hgrow8.out Hown8.out hat8
                  have hbf : Below w.heap.size w w8 := FTops.grown_below ((bthen HB0.out (bthen Hb6.out Hbd.out)).alloc (by have := (bthen HB0.out (bthen Hb6.out Hbd.out)).size; omega) _) Hgrow8.out (Hrw.out.drew.alloc _) (by have := Hs0.out; omega)
                  have Hfin := Lib.hid hfin; have Hbf := Lib.hid hbf
                  clear hfin hbf hat8
                  go_wp2_with fail
                  go_ret2
                  exact ⟨_, by rw [HE2.out]; rfl, by rw [HF2.out]; exact Hfin.out.rd, Hbf.out.setCell hgw _⟩
    · have hkb : (f[n].kind != 1) = true := by rw [bne_iff_ne]; exact hk1
      have hkb2 : (f[n].kind == 1) = false := by rw [beq_eq_false_iff_ne]; exact hk1
      rw [if_neg (by rw [hkb2]; decide)] at hE
      have hF := Herr.out 71 hE (by decide)
      have HE := Lib.hid hE; have HF := Lib.hid hF
      clear hE hF hid hn hm hmo hpl hk1
      generalize f[n].kind = kn at *
      go_enter Tryz.func65, Tryz.ntmps65
      go_upto_region 1 with fail
      rw [HW0.out]
      go_wp2_with fail
      go_ret2
      exact ⟨_, by rw [HE.out]; rfl, by rw [HF.out]; exact Hrd.out _ HB0.out, HB0.out⟩
  · rw [if_neg hn] at hE
    have hF := Herr.out 70 hE (by decide)
    have HE := Lib.hid hE; have HF := Lib.hid hF
    rw [node_iff] at hn
    clear hE hF hm hmo
    by_cases h0 : o.id < 0
    · clear hn
      go_enter Tryz.func65, Tryz.ntmps65
      go_upto_region 1 with fail
      rw [HW0.out]
      go_wp2_with fail
      go_ret2
      exact ⟨_, by rw [HE.out]; rfl, by rw [HF.out]; exact Hrd.out _ HB0.out, HB0.out⟩
    · have h1 : (f.length : Int) ≤ o.id := by omega
      clear hn
      go_enter Tryz.func65, Tryz.ntmps65
      go_upto_region 1 with fail
      rw [HW0.out]
      go_wp2_with fail
      go_ret2
      exact ⟨_, by rw [HE.out]; rfl, by rw [HF.out]; exact Hrd.out _ HB0.out, HB0.out⟩
end Go.Proofs.YthdenkkllpkplaaGreat.R7
end
section
/- What is moved, and moved back, is where it was. No program. -/
namespace Go.Proofs.YthdenkkllpkplaaGreat.FS
open Go.Proofs.YthdenkkllpkplaaGreat.WS
set_option linter.unusedVariables false

theorem fo_ext {f g : Fo} (hl : g.length = f.length) (h : ∀ i : Nat, i < f.length → at_ g i = at_ f i) : g = f := by
  refine List.ext_getElem hl (fun i h1 h2 => ?_)
  rw [← atN h1, ← atN h2]
  exact h i h2
theorem part_at {l : List Int} {x : Int} {i : Nat} (hi : i < l.length) (he : l[i] = x) : ∃ a b, l = a ++ x :: b ∧ a.length = i := by
  refine ⟨l.take i, l.drop (i + 1), ?_, by rw [List.length_take]; omega⟩
  rw [← he, ← List.drop_eq_getElem_cons hi, List.take_append_drop]
theorem part_once {a b : List Int} {x : Int} (hc : (a ++ x :: b).count x = 1) : x ∉ a ∧ x ∉ b := by
  rw [List.count_append, List.count_cons_self] at hc
  exact ⟨fun h => by have := List.count_pos_iff.2 h; omega, fun h => by have := List.count_pos_iff.2 h; omega⟩
theorem part_filter {a b : List Int} {x : Int} (hc : (a ++ x :: b).count x = 1) : (a ++ x :: b).filter (· != x) = a ++ b := by
  obtain ⟨h1, h2⟩ := part_once hc
  rw [List.filter_append, filter_none h1, List.filter_cons_of_neg (by simp), filter_none h2]
theorem insert_filter {a b : List Int} {x : Int} (hc : (a ++ x :: b).count x = 1) : insertL ((a ++ x :: b).filter (· != x)) a.length x = a ++ x :: b := by
  rw [part_filter hc]
  unfold insertL
  rw [List.take_left', List.drop_left'] <;> rfl
theorem filter_insert (l : List Int) (x : Int) (i : Nat) : (insertL (l.filter (· != x)) i x).filter (· != x) = l.filter (· != x) := by
  unfold insertL
  rw [List.filter_append, List.filter_cons_of_neg (by simp), ← List.filter_append, List.take_append_drop, List.filter_filter]
  simp
theorem len_filter (x : Int) : ∀ l : List Int, l.length = (l.filter (· != x)).length + l.count x
  | [] => rfl
  | y :: l => by
    have := len_filter x l
    by_cases h : y = x
    · subst h
      rw [List.filter_cons_of_neg (by simp), List.count_cons_self, List.length_cons]
      omega
    · rw [List.filter_cons_of_pos (by simp [h]), List.count_cons_of_ne h, List.length_cons, List.length_cons]
      omega
theorem reach_other {f g : Fo} {n : Int} (hp : ∀ j, j ≠ n → (at_ g j).parent = (at_ f j).parent) : ∀ (m : Nat) (j : Int), Reach g m j n → ∃ m', Reach f m' j n
  | 0, j, h => ⟨0, h⟩
  | m + 1, j, h => by
    by_cases e : j = n
    · exact ⟨0, e⟩
    · obtain ⟨m', h'⟩ := reach_other hp m _ h.2
      rw [hp j e] at h'
      exact ⟨m' + 1, h.1, h'⟩
theorem plain_kind {n : Nd} (h : plainB n = true) : n.kind = 0 ∨ n.kind = 1 ∨ ((n.kind = 2 ∨ n.kind = 3) ∧ n.kids = []) := by
  unfold plainB at h
  by_cases h0 : n.kind = 0
  · exact .inl h0
  by_cases h1 : n.kind = 1
  · exact .inr (.inl h1)
  rw [if_neg h0, if_neg h1] at h
  by_cases h2 : n.kind = 2 ∨ n.kind = 3
  · rw [if_pos h2] at h
    simp only [Bool.and_eq_true, decide_eq_true_eq] at h
    exact .inr (.inr ⟨h2, h.2⟩)
  · rw [if_neg h2] at h
    cases h
/-- g is f, but that node n lies elsewhere. -/
structure Moved (f g : Fo) (n : Nat) : Prop where
  may : mayB g = true
  len : g.length = f.length
  same : ∀ j : Int, (at_ g j).kind = (at_ f j).kind ∧ (at_ g j).name = (at_ f j).name ∧ (at_ g j).text = (at_ f j).text ∧ (at_ g j).attrs = (at_ f j).attrs
  par : ∀ j : Int, j ≠ (n : Int) → (at_ g j).parent = (at_ f j).parent
  kids : ∀ j : Int, (at_ g j).kids.filter (· != (n : Int)) = (at_ f j).kids.filter (· != (n : Int))
theorem moved_back {f g : Fo} {n p place : Nat} (hmf : mayB f = true) (M : Moved f g n) (hn : n < f.length) (hp : p < f.length) (he : (at_ f n).parent = p) (hpl : place < (at_ f p).kids.length) (hat : (at_ f p).kids[place] = n) (o : Opn) (ho : o = { kind := 4, id := n, «to» := p, at_ := place }) :
    oneE g o = 0 ∧ oneF g o = f := by
  have hf := may_is hmf
  have hg := may_is M.may
  have hn0 : n ≠ 0 := fun e => by
    have := hf.root
    subst e
    rw [Int.natCast_zero] at he
    omega
  have hcnt := (hf.par n hn).2.2 (by omega)
  rw [he] at hcnt
  obtain ⟨a, b, hab, hal⟩ := part_at hpl hat
  have hmem : (n : Int) ∈ (at_ f p).kids := by rw [hab]; simp
  have hc' := hcnt
  rw [hab] at hc'
  have hfil : (at_ f p).kids.filter (· != (n : Int)) = a ++ b := by rw [hab]; exact part_filter hc'
  have hkp : (at_ f p).kind = 0 ∨ (at_ f p).kind = 1 := by
    rcases plain_kind (hf.node p hp).1 with h | h | ⟨_, h⟩
    · exact .inl h
    · exact .inr h
    · rw [h] at hmem; cases hmem
  have hkn : (at_ f n).kind ≠ 0 := fun e => hn0 ((hf.node n hn).2.1 e)
  have k1 : knownB g o = true := by unfold knownB; rw [ho]; exact nodeI (by rw [M.len]; exact hn)
  have k2 : isNode g o.to = true := by rw [ho]; exact nodeI (by rw [M.len]; exact hp)
  have k3 : liesB g o = true := by
    unfold liesB
    rw [ho]
    simp only
    rw [(M.same p).1, (M.same n).1, if_neg (by omega)]
    by_cases hp0 : (p : Int) ≠ 0 ∨ (at_ f n).kind = 3
    · rw [if_pos hp0]
    · rw [if_neg hp0]
      have hp1 : p = 0 := by omega
      subst hp1
      have hd : (at_ f n).kind = 1 := by
        rcases plain_kind (hf.node n hn).1 with h | h | ⟨h | h, _⟩
        · exact absurd h hkn
        · exact h
        · exact absurd h (hf.doc n hmem)
        · exact absurd h (fun e => hp0 (.inr e))
      rw [hd]
      simp only [beq_self_eq_true, Bool.true_and, Bool.not_eq_true', List.any_eq_false, Bool.and_eq_true, bne_iff_ne, beq_iff_eq, not_and]
      intro k hk hne hk1
      have h1 : k ∈ (at_ f (0 : Nat)).kids.filter (· != (n : Int)) := by
        rw [← M.kids]
        exact List.mem_filter.2 ⟨hk, by simpa using hne⟩
      rw [hfil] at h1
      rw [(M.same k).1] at hk1
      have hone := hf.one
      rw [show (at_ f 0).kids = a ++ (n : Int) :: b from hab] at hone
      unfold elems at hone
      rw [List.countP_append, List.countP_cons_of_pos (by simp [hd])] at hone
      have ha0 : a.countP (fun k => (at_ f k).kind == 1) = 0 := by omega
      have hb0 : b.countP (fun k => (at_ f k).kind == 1) = 0 := by omega
      rw [List.countP_eq_zero] at ha0 hb0
      rcases List.mem_append.1 h1 with h | h
      · exact ha0 k h (by simp [hk1])
      · exact hb0 k h (by simp [hk1])
  have k4 : belowB g o.id o.to = false := by
    rw [Bool.eq_false_iff]
    intro h
    rw [below_iff M.may k2] at h
    rw [ho] at h
    obtain ⟨h0, m, hm⟩ := h
    obtain ⟨m', h'⟩ := reach_other M.par m _ hm
    exact no_cycle (f := f) (m := m') (i := (n : Int)) ⟨h0, by rw [he]; exact h'⟩ (hf.climb n hn)
  have k5 : fitsB g o = true := by
    unfold fitsB
    rw [ho]
    simp only [decide_eq_true_eq]
    have hlf := len_filter (n : Int) (at_ g p).kids
    rw [M.kids, hfil, List.length_append] at hlf
    refine ⟨by omega, ?_⟩
    split
    · rename_i e
      have := (hg.par n (by rw [M.len]; exact hn)).2.2 (by omega)
      rw [e] at this
      omega
    · rename_i e
      omega
  have hmo : mayO o = true := by
    rw [ho]
    exact mayO_4 _ _ _
  have hko : o.kind = 4 := by rw [ho]
  have hE : oneE g o = 0 := by
    unfold oneE checks
    rw [if_pos hmo, if_neg (by omega), if_neg (by omega), if_pos hko, k1, k2, k3, k4, k5]
    rfl
  refine ⟨hE, ?_⟩
  unfold oneF doF
  rw [if_pos hE, if_neg (by omega), if_pos hko]
  refine fo_ext (by rw [insert_length, M.len]) (fun j hj => ?_)
  rw [insert_at hg (i := n) (t := p) (by rw [ho]) (by rw [ho]) (by rw [M.len]; exact hn) (by rw [M.len]; exact hp)]
  obtain ⟨s1, s2, s3, s4⟩ := M.same j
  have e5 : (if (j : Int) = (n : Int) then (p : Int) else (at_ g j).parent) = (at_ f j).parent := by
    by_cases e : (j : Int) = (n : Int)
    · rw [if_pos e, e, he]
    · rw [if_neg e, M.par _ e]
  have e6 : (if (j : Int) = (p : Int) then insertL ((at_ g j).kids.filter (· != (n : Int))) o.at_.toNat n else (at_ g j).kids.filter (· != (n : Int))) = (at_ f j).kids := by
    rw [M.kids]
    by_cases e : (j : Int) = (p : Int)
    · rw [if_pos e, e, hab, show o.at_.toNat = a.length by rw [ho, hal]; exact Int.toNat_natCast _]
      exact insert_filter hc'
    · rw [if_neg e, filter_none (not_kid hf (by rw [he]; exact fun x => e x.symm))]
  rw [e5, e6]
  generalize at_ g (j : Int) = x at *
  generalize at_ f (j : Int) = y at *
  cases x
  cases y
  simp only at s1 s2 s3 s4
  simp [s1, s2, s3, s4]
theorem move_there {f : Fo} {n p place : Nat} (hmf : mayB f = true) (hn : n < f.length) (hp : p < f.length) (he : (at_ f n).parent = p) (hpl : place < (at_ f p).kids.length) (hat : (at_ f p).kids[place] = n) (o b : Opn) (hk : o.kind = 4) (hi : o.id = n) (hE : oneE f o = 0) (hb : b = { kind := 4, id := n, «to» := p, at_ := place }) :
    (oneF f o).length = f.length ∧ oneE (oneF f o) b = 0 ∧ oneF (oneF f o) b = f := by
  have hf := may_is hmf
  obtain ⟨_, hch⟩ := one_kinds hE
  unfold checks at hch
  rw [if_neg (by omega), if_neg (by omega), if_pos hk] at hch
  obtain ⟨t, hot, ht⟩ := node_nat (k := o.to) (hch (70, isNode f o.to) (by simp))
  have hF : oneF f o = insertF f o := by
    unfold oneF doF
    rw [if_pos hE, if_neg (by omega), if_pos hk]
  have hl : (oneF f o).length = f.length := by rw [hF, insert_length]
  have hat' := insert_at hf hi hot hn ht
  refine ⟨hl, moved_back hmf ⟨one_may hmf o, hl, fun j => ?_, fun j hj => ?_, fun j => ?_⟩ hn hp he hpl hat b hb⟩
  · rw [hF, hat']; exact ⟨rfl, rfl, rfl, rfl⟩
  · rw [hF, hat']; simp only; rw [if_neg hj]
  · rw [hF, hat']
    simp only
    split
    · exact filter_insert _ _ _
    · rw [List.filter_filter]; simp
theorem move_off {f : Fo} {n p place : Nat} (hmf : mayB f = true) (hn : n < f.length) (hp : p < f.length) (he : (at_ f n).parent = p) (hpl : place < (at_ f p).kids.length) (hat : (at_ f p).kids[place] = n) (o b : Opn) (ho : o = { kind := 5, id := n }) (hb : b = { kind := 4, id := n, «to» := p, at_ := place }) :
    oneE f o = 0 ∧ (oneF f o).length = f.length ∧ (at_ (oneF f o) n).parent = -1 ∧ oneE (oneF f o) b = 0 ∧ oneF (oneF f o) b = f := by
  have hf := may_is hmf
  have hn0 : n ≠ 0 := fun e => by
    have := hf.root
    subst e
    rw [Int.natCast_zero] at he
    omega
  have hmo : mayO o = true := by
    rw [ho]
    exact mayO_5 _
  have hko : o.kind = 5 := by rw [ho]
  have hE : oneE f o = 0 := by
    have k1 : knownB f o = true := by unfold knownB; rw [ho]; exact nodeI hn
    have k2 : (o.id != 0) = true := by rw [ho, bne_iff_ne]; show (n : Int) ≠ 0; omega
    have k3 : ((at_ f o.id).parent != -1) = true := by rw [ho, bne_iff_ne]; show (at_ f (n : Int)).parent ≠ -1; omega
    unfold oneE checks
    rw [if_pos hmo, if_neg (by omega), if_neg (by omega), if_neg (by omega), if_pos hko, k1, k2, k3]
    rfl
  have hF : oneF f o = takeF f n := by
    unfold oneF doF
    rw [if_pos hE, if_neg (by omega), if_neg (by omega), if_pos hko, ho]
  have hl : (oneF f o).length = f.length := by rw [hF, take_length]
  have hat' := take_at hf hn
  refine ⟨hE, hl, by rw [hF, hat', if_pos rfl], moved_back hmf ⟨one_may hmf o, hl, fun j => ?_, fun j hj => ?_, fun j => ?_⟩ hn hp he hpl hat b hb⟩
  · rw [hF, hat']; exact ⟨rfl, rfl, rfl, rfl⟩
  · rw [hF, hat']; simp only; rw [if_neg hj]
  · rw [hF, hat']
    simp only
    rw [List.filter_filter]; simp
end Go.Proofs.YthdenkkllpkplaaGreat.FS
end
