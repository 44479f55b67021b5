/- Joined by a program: ItsG, ADo, ShelfD, ShelfE, ATake, ATakeB. -/
import Derived.Deep.AppendLies
import Derived.Deep.RegionLaw
import Derived.Ground.Names2Prog
import Derived.Shelf.Slices.Clone
import Derived.Test.YthdenkkllpkplaaGreatProg
import Derived.Shelf.SlicesE.DeleteFunc
import Derived.Shelf.SlicesE.Clone
import Derived.Ground.SlgfProg
import Derived.Ground.SlgnProg
import Derived.Test.YthdenkkllpkplaaGreatC10
import Derived.Test.YthdenkkllpkplaaGreatC09
section
/- Lemmas about a forest of the reference in the making. -/
namespace Go.Proofs.YthdenkkllpkplaaGreat.Its
open Go Go.RowKit Go.Proofs.YthdenkkllpkplaaGreat.Seq Go.Proofs.YthdenkkllpkplaaGreat.WS Go.Proofs.YthdenkkllpkplaaGreat.FS Go.Proofs.YthdenkkllpkplaaGreat.Mem Go.Proofs.YthdenkkllpkplaaGreat.Rd Go.Proofs.YthdenkkllpkplaaGreat.Shapes Go.Proofs.YthdenkkllpkplaaGreat.Word Go.Proofs.YthdenkkllpkplaaGreat.FFam Go.Proofs.YthdenkkllpkplaaGreat.OwnF
set_option linter.unusedVariables false
set_option linter.unusedSimpArgs false

def atCells (l : List Av) : List Value := l.flatMap (fun a => [.string a.name, .string a.value])
theorem atCells_snoc (l : List Av) (a : Av) : atCells (l ++ [a]) = atCells l ++ [.string a.name, .string a.value] := by unfold atCells; rw [List.flatMap_append]; simp
theorem atCells_length : ∀ l : List Av, (atCells l).length = l.length * 2
  | [] => rfl
  | a :: l => by have := atCells_length l; unfold atCells at this ⊢; rw [List.flatMap_cons, List.length_append, this]; simp; omega
theorem atCells_at : ∀ {l : List Av} {i : Nat} (h : i < l.length), ((atCells l).drop (i * 2)).take 2 = [.string l[i].name, .string l[i].value]
  | a :: l, 0, h => rfl
  | a :: l, i + 1, h => by
    have := atCells_at (l := l) (i := i) (by simpa using h)
    unfold atCells at this ⊢
    rw [List.flatMap_cons, show (i + 1) * 2 = i * 2 + 1 + 1 by omega]
    exact this
theorem rows_attrs {w : World} {base : Nat} {e : TypeId} {v : Value} {l : List Av} {S : Nat → Prop} (h : w.ownsRow base e 2 v l.length (atCells l)) (hS : ∀ g, v.ownBlock = some g → S g) (hm : ∀ a ∈ l, a.name.size ≤ maxLen ∧ a.value.size ≤ maxLen) : RdS attrS 2 S w v l :=
  RdS.of_own h rfl hS (fun i hi => ⟨atCells_at hi, hm _ (List.getElem_mem _)⟩)
theorem info_rnode : (Tryz.prog.info? 86).map (fun i => (i.zero, i.size, i.bytes)) = some (some (.agg #[.int .i64 0, .string ⟨#[]⟩, .string ⟨#[]⟩, .slice none 0 0, .int .i64 0, .slice none 0 0]), 6, 96) := by kernel_rfl
theorem info_rattr : (Tryz.prog.info? 131).map (fun i => (i.zero, i.size, i.bytes)) = some (some (.agg #[.string ⟨#[]⟩, .string ⟨#[]⟩]), 2, 32) := by kernel_rfl
/-- The node in the making. -/
def NBox (gn : Nat) (kd : Int) (nm tx : ByteArray) (par : Int) (vk : Value) (l : List Av) (va : Value) (wo wi : World) : Prop :=
  wi.heap[gn]? = some (.cells #[.int .i64 kd, .string nm, .string tx, va, .int .i64 par, vk] 86 (0, 0)) ∧ wi.ownsRow (gn + 1) 131 2 va l.length (atCells l) ∧ Below wo.heap.size wo wi
theorem nbox_step {gn : Nat} {kd : Int} {nm tx : ByteArray} {par : Int} {vk : Value} {l : List Av} {a : Av} {va : Value} {wo wr w7 : World} {g7 n7 cap7 : Nat} {wm : World} (hgn : gn = wo.heap.size)
    (h : NBox gn kd nm tx par vk l va wo wr) (hwm : wm = (wr.alloc (.cells #[.string a.name, .string a.value] 131)).drew)
    (hown : w7.ownsRow (gn + 1) 131 2 (.slice (some ⟨g7, 0, none⟩) n7 cap7) (l ++ [a]).length (atCells (l ++ [a]))) (hgr : wm.grownBy w7 va.ownBlock) (hat : va.ownBlock = some g7 ∨ g7 = wr.heap.size + 1) :
    NBox gn kd nm tx par vk (l ++ [a]) (.slice (some ⟨g7, 0, none⟩) n7 cap7) wo (w7.setCell ⟨gn, 3, none⟩ (.slice (some ⟨g7, 0, none⟩) n7 cap7)) := by
  obtain ⟨h1, h2, h3⟩ := h
  subst hwm
  have hlt := lt_heap h1
  have hne : va.ownBlock ≠ some gn := fun e => by have := (h2.lt gn e).1; omega
  have e7 := (hgr.block gn (Nat.lt_of_lt_of_le hlt (by simp)) (fun e => hne e.symm)).trans (heap_old h1)
  have hg7 : g7 ≠ gn := by
    rcases hat with e | e
    · intro e2; exact hne (by rw [e, e2])
    · omega
  refine ⟨(Repl.setCell_row e7).trans rfl, own_keep hown (fun g hg => heap_other (by injection hg with hg; have : g7 = g := hg; omega)), ?_⟩
  have b1 : Below wo.heap.size wo (wr.alloc (.cells #[.string a.name, .string a.value] 131)).drew := (h3.alloc h3.size _).drew
  have b2 := b1.trans ((Off.grown (Y := fun b => wo.heap.size ≤ b) hgr (fun r hr => by have := (h2.lt r hr).1; omega)).toBelow b1.size (fun b hb => hb))
  exact b2.setCell (by simp; omega) _
  where heap_other {w : World} {b g i : Nat} {v : Value} (h : g ≠ b) : (w.setCell ⟨b, i, none⟩ v).heap[g]? = w.heap[g]? := Below.heap_setCell _ _ _ _ h
theorem attrs_small {B : Nat} {w : World} {v : Value} {l : List Av} (h : RdL attrE 2 B w v l) : ∀ a ∈ l, a.name.size ≤ maxLen ∧ a.value.size ≤ maxLen := by
  intro a ha
  obtain ⟨i, hi, rfl⟩ := List.mem_iff_getElem.1 ha
  obtain ⟨A, c, rfl, _, _, h'⟩ := h.form
  obtain ⟨b, o, cs, _, _, _, _, _, h1, h2⟩ := h'.at_ hi
  exact ⟨h1, h2⟩
theorem out_step {w wo wr w8 : World} {fs : Fo} {k gn : Nat} {kd : Int} {nm tx : ByteArray} {par : Int} {ats : List Av} {kks : List Int} {Ak A3 AO : Option Addr} {ck n3 c3 nO cO : Nat} {xsO : List Value} {v8 : Value} (hkl : fs.length = k)
    (hnd : ∀ i (hi : i < fs.length), nodeS (fun b => (Value.slice AO nO cO).ownBlock ≠ some b) wo ((xsO.drop (i * 6)).take 6) fs[i]) (hro : wo.ownsRow w.heap.size 86 6 (.slice AO nO cO) fs.length xsO)
    (hN : NBox gn kd nm tx par (.slice Ak kks.length ck) ats (.slice A3 n3 c3) wo wr) (hgn : gn = wo.heap.size) (hrk : RdL (intE .i64) 1 w.heap.size wr (.slice Ak kks.length ck) kks)
    (hrO2 : (wr.alloc (.cells #[.int .i64 kd, .string nm, .string tx, .slice A3 n3 c3, .int .i64 par, .slice Ak kks.length ck] 86)).ownsRow w.heap.size 86 6 (.slice AO nO cO) k xsO)
    (hown : w8.ownsRow w.heap.size 86 6 v8 (k + 1) (xsO ++ [.int .i64 kd, .string nm, .string tx, .slice A3 n3 c3, .int .i64 par, .slice Ak kks.length ck]))
    (hgr : (wr.alloc (.cells #[.int .i64 kd, .string nm, .string tx, .slice A3 n3 c3, .int .i64 par, .slice Ak kks.length ck] 86)).grownBy w8 (Value.slice AO nO cO).ownBlock)
    (hat : v8.ownBlock = (Value.slice AO nO cO).ownBlock ∨ v8.ownBlock = some (wr.alloc (.cells #[.int .i64 kd, .string nm, .string tx, .slice A3 n3 c3, .int .i64 par, .slice Ak kks.length ck] 86)).heap.size)
    (ha : ∀ a ∈ ats, a.name.size ≤ maxLen ∧ a.value.size ≤ maxLen) (hsm : nm.size ≤ maxLen ∧ tx.size ≤ maxLen ∧ (Lit.int .i64 kd).wf = true ∧ (Lit.int .i64 par).wf = true) (hws : w.heap.size ≤ wr.heap.size) :
    OwnF 86 w.heap.size w8 v8 (fs ++ [⟨kd, nm, tx, ats, par, kks⟩]) := by
  obtain ⟨hbx, hrow, hbel⟩ := hN
  have hal : ∀ b, b < wr.heap.size → (wr.alloc (.cells #[.int .i64 kd, .string nm, .string tx, .slice A3 n3 c3, .int .i64 par, .slice Ak kks.length ck] 86)).heap[b]? = wr.heap[b]? := fun b hb => Below.heap_alloc _ _ _ hb
  subst hkl
  refine OwnF.more (w := wr.alloc (.cells #[.int .i64 kd, .string nm, .string tx, .slice A3 n3 c3, .int .i64 par, .slice Ak kks.length ck] 86)) (f := fs) (g := [⟨kd, nm, tx, ats, par, kks⟩]) hrO2 (fun i hi => (hnd i hi).keep (fun b _ hb => (hal b (Nat.lt_of_lt_of_le hb hbel.size)).trans (hbel.block b hb)) (by have := hbel.size; simp; omega) (fun _ x _ => x)) rfl (fun i hi => ?_) hown hgr hat
  obtain rfl : i = 0 := by simp at hi; omega
  refine ⟨.slice A3 n3 c3, .slice Ak kks.length ck, rfl, ?_, ?_, hsm⟩
  · refine (rows_attrs (S := fun b => (Value.slice AO nO cO).ownBlock ≠ some b) hrow (fun g hg e => ?_) ha).keep (fun b _ hb => hal b hb) (by simp) (fun _ x _ => x)
    have := (hrow.lt g hg).1
    have := (hro.lt g e).2
    omega
  · exact (RdS.of_rd (E := intS) hrk hws).keep (fun b hb _ => hal b (by omega)) (by simp) (fun b hb _ e => by have := (hro.lt b e).1; omega)
end Go.Proofs.YthdenkkllpkplaaGreat.Its
end
section
/- apply: what is done; the small doings. -/
namespace Go.Proofs.YthdenkkllpkplaaGreat.Work
open Go Go.RowKit Go.Proofs.YthdenkkllpkplaaGreat.Seq Go.Proofs.YthdenkkllpkplaaGreat.WS Go.Proofs.YthdenkkllpkplaaGreat.FS Go.Proofs.YthdenkkllpkplaaGreat.Mem Go.Proofs.YthdenkkllpkplaaGreat.Rd Go.Proofs.YthdenkkllpkplaaGreat.Shapes Go.Proofs.YthdenkkllpkplaaGreat.Word Go.Proofs.YthdenkkllpkplaaGreat.FFam Go.Proofs.YthdenkkllpkplaaGreat.OwnF
set_option linter.unusedVariables false
set_option linter.unusedSimpArgs false

/-- What a doing leaves. -/
def DoPost [Avoid] (base wk : Nat) (o : Opn) (f' : Fo) (w : World) (e : Ending) (w' : World) : Prop := e = .returned (.tuple #[]) ∧ ∃ g c, Wk base wk g c o f' w' ∧ Below base w w'
def Do [Avoid] (K : FuncId) (base wk g c : Nat) (o : Opn) (f f' : Fo) : Prop := ∀ w, Wk base wk g c o f w → Calls Tryz.prog K #[.pointer (some ⟨wk, 0, none⟩)] w (DoPost base wk o f' w)
section
variable [Avoid] {base wk g c : Nat} {o : Opn} {f : Fo}
theorem Wk.base_le {w : World} (h : Wk base wk g c o f w) (h0 : 0 < f.length) : base ≤ g ∧ g < w.heap.size := by
  obtain ⟨g', c', e, hb, hlt, _⟩ := h.own.form h0
  injection e with e
  injection e with e
  injection e with e
  subst e
  exact ⟨hb, hlt⟩
theorem Wk.put {w : World} (h : Wk base wk g c o f w) {i j : Nat} (hi : i < f.length) (hj : j < 6) {u : Value} {n : Nd} (hn : ∀ cs, nodeS (fun b => b ≠ g ∧ b ≠ wk ∧ Avoid.lo ≤ b) w cs f[i] → nodeS (fun b => b ≠ g ∧ b ≠ wk ∧ Avoid.lo ≤ b) w (cs.set j u) n) :
    Wk base wk g c o (f.set i n) (w.setCell ⟨g, i * 6 + j, none⟩ u) ∧ Below base w (w.setCell ⟨g, i * 6 + j, none⟩ u) := by
  have hb := (h.base_le (Nat.lt_of_le_of_lt (Nat.zero_le _) hi)).1
  have hs := h.ownx.store hi hj hn
  refine ⟨⟨?_, ?_, h.ne, ?_, h.lo⟩, (Below.refl _ _).setCell hb _⟩
  · rw [List.length_set]
    exact (Below.heap_setCell _ _ _ _ (fun e => h.ne e.symm)).trans h.box
  · rw [List.length_set]
    exact hs
  · rw [List.length_set]
    exact h.big
end
theorem set_at {f : Fo} {i : Nat} (hi : i < f.length) (n : Nd) : at_ (f.set i n) (i : Int) = n := by
  rw [at_nat (by rw [List.length_set]; exact hi), List.getElem_set_self]
section
variable [Avoid] {base wk g c : Nat} {o : Opn} {f : Fo}
theorem node_grow (w : World) (h : Wk base wk g c o f w) (hi : isNode f o.id = true) : ∀ W, (W = w ∨ W = w.drew) → Calls Tryz.prog 114 #[.pointer (some ⟨wk, 0, none⟩)] W fun e w' => e = .returned (.pointer (some ⟨g, o.id.toNat * 6, none⟩)) ∧ Below w.heap.size w w' := by
  rintro W (rfl | rfl)
  · exact (node_calls W h hi).mono (fun e w' ⟨h1, n, h2⟩ => ⟨h1, h2 ▸ drewN_below (Below.refl _ _) n⟩)
  · exact (node_calls w.drew (h.below (Below.refl _ _).drew) hi).mono (fun e w' ⟨h1, n, h2⟩ => ⟨h1, h2 ▸ drewN_below (Below.refl _ _).drew n⟩)
theorem Wk.base_size {w : World} (h : Wk base wk g c o f w) (h0 : 0 < f.length) : base ≤ w.heap.size := by have := h.base_le h0; omega
end
theorem Below.cut {B b : Nat} {w w' : World} (h : Below B w w') (hb : b ≤ B) : Below b w w' := h.mono hb
section
variable [Avoid] {base wk g c : Nat} {o : Opn} {f : Fo}
theorem change_do (hi : isNode f o.id = true) (ht : o.text.size ≤ maxLen) : Do 129 base wk g c o f (f.set o.id.toNat { at_ f o.id with text := o.text }) := by
  intro w h
  obtain ⟨k, hk, hkl⟩ := node_nat hi
  have hcc := fun w' (hw' : Below w.heap.size w w') => cell_grow hw' h.cells.2.2.2.2.2.2
  have hn := node_grow w h hi
  have hput := fun w' (hw' : Below w.heap.size w w') => (h.below hw').put (j := 2) (u := .string o.text) (n := { f[k] with text := o.text }) hkl (by decide) (fun cs hcs => by
    obtain ⟨va, vk, rfl, r1, r2, r3, r4, r5, r6⟩ := hcs
    exact ⟨va, vk, rfl, r1, r2, r3, ht, r5, r6⟩)
  have hfree := fun w' (hw' : Below w.heap.size w w') => ((h.below hw').free (by omega)).1 (k * 6 + 2)
  obtain ⟨_, _, _, _, k2, _, _, _, _, _⟩ := h.node hi
  have hk2 := fun w' (hw' : Below w.heap.size w w') => cell_grow hw' k2
  have hbs := h.base_size (by omega)
  have hne := h.ne
  rw [hk] at hn hk2 ⊢
  rw [Int.toNat_natCast] at hk2 hn ⊢
  have e : at_ f (k : Int) = f[k] := at_nat hkl
  rw [e]
  have c6 := hcc w (Below.refl _ _)
  have kf := hfree w (Below.refl _ _)
  have k2 := hk2 w (Below.refl _ _)
  rw [e] at k2 hk2
  have Hn := Lib.hid hn; have Hput := Lib.hid hput; have Hcc := Lib.hid hcc; have Hfree := Lib.hid hfree; have Hk2 := Lib.hid hk2
  clear hn hput h hi e hcc hfree hk2
  go_enter Tryz.func129, Tryz.ntmps129
  go_region_held3 (fun w' => w'.cell? ⟨wk, 6, none⟩ = some (.string o.text))
    (first | exact c6 | exact d6 | (exact (OwnF.cell_same (Below.heap_setCell _ _ _ _ (fun e => hne e.symm)) _).trans (by assumption)) | go_keep)
    (first | (go_at_call 114; (first | (with_reducible refine (Hn.out _ (.inl rfl)).mono ?_) | (with_reducible refine (Hn.out _ (.inr rfl)).mono ?_)); rintro e w5 ⟨rfl, hb5⟩; have d6 := Hcc.out _ hb5; have d2 := Hk2.out _ hb5; have df := Hfree.out _ hb5; have Hb5 := Lib.hid hb5; clear hb5))
  refine bodyPost_ret (results_none rfl _ _ _) rfl ?_
  obtain ⟨p1, p2⟩ := Hput.out _ Hb5.out
  exact ⟨rfl, _, _, p1, (Hb5.out.mono hbs).trans p2⟩
end
section
variable {base wk g c : Nat} {o : Opn} {f : Fo}
theorem fresh_node {w : World} {S : Nat → Prop} {k : Int} (hk : (Lit.int .i64 k).wf = true) (hn : o.name.size ≤ maxLen) (ht : o.text.size ≤ maxLen) :
    nodeS S w [.int .i64 k, .string o.name, .string o.text, .slice none 0 0, .int .i64 (-1), .slice none 0 0] { kind := k, name := o.name, text := o.text, parent := -1 } :=
  ⟨_, _, rfl, RdS.nil, RdS.nil, hn, ht, hk, rfl⟩
end
section
variable [Avoid] {base wk g c : Nat} {o : Opn} {f : Fo}
set_option maxRecDepth 100000 in
set_option maxHeartbeats 4000000 in
theorem fresh_calls (k : Int) (hk : (Lit.int .i64 k).wf = true) (h0 : 0 < f.length) (hl60 : f.length ≤ 1000) (hn : o.name.size ≤ maxLen) (ht : o.text.size ≤ maxLen) (w : World) (h : Wk base wk g c o f w) (hbw : base ≤ wk) :
    Calls Tryz.prog 104 #[.pointer (some ⟨wk, 0, none⟩), .int .i64 k] w (DoPost base wk o (f ++ [{ kind := k, name := o.name, text := o.text, parent := -1 }]) w) := by
  obtain ⟨c0, c1, c2, c3, c4, c5, c6⟩ := h.cells
  have hl := h.big
  have hbs := h.base_size h0
  obtain ⟨xs, how, hnd⟩ := h.ownx
  obtain ⟨hgf, hwf, hgl, hwl⟩ := h.free h0
  have hgb := (h.base_le h0).1
  have hwf0 := hwf 0
  obtain ⟨i0, hi0, hz0, hz1, hz2⟩ := info_parts LKinds.info_node
  have Hnd := Lib.hid hnd; have How := Lib.hid how; have H := Lib.hid h
  have hne := h.ne
  have HK := Lib.hid hk; have HN := Lib.hid hn; have HT := Lib.hid ht
  clear h how hnd hgf hwf hk hn ht
  go_enter Tryz.func104, Tryz.ntmps104
  go_region_law (refine step_append_lies _ rfl (.tmp 8) (.tmp 21) 28 rfl base 55 i0 _ 6 96 Tryz.underlying28 hi0 hz0 hz1 hz2 rfl (by decide) (.slice (some ⟨g, 0, none⟩) f.length c) f.length xs (by simp [Act.eval, Act.put]) ((How.out.alloc _).drew) ⟨w.heap.size, 0, none⟩ 1 1 [.int .i64 k, .string o.name, .string o.text, .slice none 0 0, .int .i64 (-1), .slice none 0 0] (by simp [Act.eval, Act.put]) rfl (World.news_of_block (cs := #[.int .i64 k, .string o.name, .string o.text, .slice none 0 0, .int .i64 (-1), .slice none 0 0]) (t := 55) (fr := (0, 0)) (heap_alloc_new w _)) (by simp [Value.oneCell']) (by omega) (by simp only [maxLen]; omega) (by omega) (by simp; omega) (w.heap.size + 1) (by simp) ?_; intro g7 cap7 w7 hown7 hgrow7 hat7 hlt7; have e7 := (hgrow7.block wk (by simp; omega) (fun e => hne (by injection e with e; exact e.symm))).trans (heap_old H.out.box); have k7 : w7.cell? ⟨wk, 0, none⟩ = some (.slice (some ⟨g, 0, none⟩) f.length c) := (cell_of_row _ _ _ _ _ _ e7).trans rfl; have k7f := free_of e7 0; have E7 := Lib.hid e7; have Hown7 := Lib.hid hown7; have Hgrow7 := Lib.hid hgrow7; have Hat7 := Lib.hid hat7; clear e7 hown7 hgrow7 hat7)
  all_goals
    refine bodyPost_ret (results_none rfl _ _ _) rfl ?_
    have hO := OwnX.more (X := fun b => b ≠ wk ∧ Avoid.lo ≤ b) (f := f) (g := [{ kind := k, name := o.name, text := o.text, parent := -1 }]) ((How.out.alloc (.cells #[.int .i64 k, .string o.name, .string o.text, .slice none 0 0, .int .i64 (-1), .slice none 0 0] 55 (0, 0))).drew)
      (fun i hi => (Hnd.out i hi).keep (fun b _ hb => Below.heap_alloc _ _ _ hb) (by simp) (fun b hb _ => hb)) rfl (fun i hi => by
        obtain rfl : i = 0 := by simp at hi; omega
        exact fresh_node HK.out HN.out HT.out) Hown7.out Hgrow7.out (by
          rcases Hat7.out with e | e
          · exact .inl e.symm
          · exact .inr (by rw [e]; simp [Value.ownBlock]))
    have hg7 : g7 ≠ wk := by
      rcases Hat7.out with e | e
      · intro e2; apply hne; simp [Value.ownBlock] at e; omega
      · omega
    have hB : Below base w w7 := by
      have b1 := ((Below.refl base w).alloc hbs (.cells #[.int .i64 k, .string o.name, .string o.text, .slice none 0 0, .int .i64 (-1), .slice none 0 0] 55 (0, 0))).drew
      exact b1.trans ((Off.grown (Y := fun b => base ≤ b) Hgrow7.out (fun r hr => by simp only [Value.ownBlock] at hr; injection hr with hr; omega)).toBelow (by simp; omega) (fun b hb => hb))
    refine ⟨rfl, g7, cap7, ⟨?_, ?_, hg7, ?_, H.out.lo⟩, hB.setCell hbw _⟩
    · rw [List.length_append]
      exact (Repl.setCell_row E7.out).trans rfl
    · rw [List.length_append]
      exact hO.keep (fun b hb hx => Below.heap_setCell _ _ _ _ (by
        rcases hx with h | h
        · exact h.1
        · intro e; apply hg7; simp only [Value.ownBlock] at h; injection h with h; exact h.trans e)) (by simp [World.setCell])
    · rw [List.length_append]
      obtain ⟨_, _, e, _, _, _, h1, h2⟩ := hO.own.form (by simp)
      injection e with e1 e2 e3
      subst e3
      rw [List.length_append] at h1
      exact ⟨h1, by simp only [maxLen] at h2; omega⟩
theorem fresh1_do (h0 : 0 < f.length) (hl60 : f.length ≤ 1000) (hn : o.name.size ≤ maxLen) (ht : o.text.size ≤ maxLen) (hbw : base ≤ wk) (hk : o.kind = 1) : Do 103 base wk g c o f (freshF f o) := by
  intro w h
  have hf := fresh_calls 1 rfl h0 hl60 hn ht w h hbw
  unfold freshF
  rw [hk]
  have Hf := Lib.hid hf
  clear hf h
  go_enter Tryz.func103, Tryz.ntmps103
  go_wp2_with (go_at_call 104; (with_reducible refine (Hf.out).mono ?_); rintro e w5 ⟨rfl, hp⟩)
  first | go_end0 | (simp only [Exit.inBlock, Exit.then]; refine bodyPost_ret (results_none rfl _ _ _) rfl ?_) | refine bodyPost_ret (results_none rfl _ _ _) rfl ?_
  exact ⟨rfl, hp⟩
theorem fresh2_do (h0 : 0 < f.length) (hl60 : f.length ≤ 1000) (hn : o.name.size ≤ maxLen) (ht : o.text.size ≤ maxLen) (hbw : base ≤ wk) (hk : o.kind = 2) : Do 106 base wk g c o f (freshF f o) := by
  intro w h
  have hf := fresh_calls 2 rfl h0 hl60 hn ht w h hbw
  unfold freshF
  rw [hk]
  have Hf := Lib.hid hf
  clear hf h
  go_enter Tryz.func106, Tryz.ntmps106
  go_wp2_with (go_at_call 104; (with_reducible refine (Hf.out).mono ?_); rintro e w5 ⟨rfl, hp⟩)
  first | go_end0 | (simp only [Exit.inBlock, Exit.then]; refine bodyPost_ret (results_none rfl _ _ _) rfl ?_) | refine bodyPost_ret (results_none rfl _ _ _) rfl ?_
  exact ⟨rfl, hp⟩
theorem fresh3_do (h0 : 0 < f.length) (hl60 : f.length ≤ 1000) (hn : o.name.size ≤ maxLen) (ht : o.text.size ≤ maxLen) (hbw : base ≤ wk) (hk : o.kind = 3) : Do 107 base wk g c o f (freshF f o) := by
  intro w h
  have hf := fresh_calls 3 rfl h0 hl60 hn ht w h hbw
  unfold freshF
  rw [hk]
  have Hf := Lib.hid hf
  clear hf h
  go_enter Tryz.func107, Tryz.ntmps107
  go_wp2_with (go_at_call 104; (with_reducible refine (Hf.out).mono ?_); rintro e w5 ⟨rfl, hp⟩)
  first | go_end0 | (simp only [Exit.inBlock, Exit.then]; refine bodyPost_ret (results_none rfl _ _ _) rfl ?_) | refine bodyPost_ret (results_none rfl _ _ _) rfl ?_
  exact ⟨rfl, hp⟩
end
end Go.Proofs.YthdenkkllpkplaaGreat.Work
end
section
/- The kit's library contracts, laid at this program in plain words (wip/shelf.py). -/
namespace Go.Proofs
open Go.Shelf
def Tryz.laysNm215_ren : Go.Shelf.Ren := ⟨fun | 15 => 116 | n => n, fun | 22 => 53 | 3 => 3 | 4 => 4 | n => n, fun | n => n⟩
theorem Tryz.laysNm215 : Go.Proofs.Lays2.n15 Tryz.prog Tryz.laysNm215_ren := {
  mixed := by kernel_rfl
  f15 := Tryz.func116.trans (congrArg some (by kernel_rfl))
  t3 := Tryz.underlying3
  a3 := Tryz.isAgg3
  z3 := Tryz.sizeOf3
  v3 := Tryz.zeroValue3
  t4 := Tryz.underlying4
  a4 := Tryz.isAgg4
  z4 := Tryz.sizeOf4
  v4 := Tryz.zeroValue4
  t22 := Tryz.underlying53
  a22 := Tryz.isAgg53
  z22 := Tryz.sizeOf53
  v22 := Tryz.zeroValue53
  i3 := by kernel_rfl }
open Go.RowKit Go.Lib in
theorem Tryz.slices_Clone_int (b off n c : Nat) (zs : List Int) (w : World) (hz : n ≤ zs.length) (hbig : n * 8 ≤ 140737488355328) (hc : ∀ j, j < zs.length → w.cell? ⟨b, off + j, none⟩ = some (.int .i64 (zs.getD j 0))) :
    Calls Tryz.prog 116 #[.slice (some ⟨b, off, none⟩) n c] w fun e w' => ∃ v', e = .returned v' ∧ w'.ownsRow w.heap.size 3 1 v' n ((zs.take n).map (Value.int .i64)) ∧ v' ≠ .slice none 0 0 ∧ Below w.heap.size w w' := Any.slices_Clone_int Tryz.laysNm215 b off n c zs w hz hbig hc
open Go.RowKit Go.Lib in
theorem Tryz.slices_Clone_int_nil (n c : Nat) (w : World) :
    Calls Tryz.prog 116 #[.slice none n c] w fun e w' => e = .returned (.slice none 0 0) ∧ w' = w := Any.slices_Clone_int_nil Tryz.laysNm215 n c w
open Go.RowKit Go.Lib in
theorem Tryz.slices_Clone_int_zero (a : Addr) (c : Nat) (w : World) :
    Calls Tryz.prog 116 #[.slice (some a) 0 c] w fun e w' => ∃ v', e = .returned v' ∧ w'.ownsRow w.heap.size 3 1 v' 0 [] ∧ v' ≠ .slice none 0 0 ∧ Below w.heap.size w w' := Any.slices_Clone_int_zero Tryz.laysNm215 a c w
end Go.Proofs
end
section
/- The kit's library contracts, laid at this program in plain words (wip/shelfg.py). -/
namespace Go.Proofs
open Go.Shelf
def Tryz.laysDf_ren : Go.Shelf.Ren := ⟨fun | 10 => 171 | 6 => 76 | n => n, fun | 22 => 53 | 23 => 3 | 25 => 136 | 3 => 3 | 4 => 4 | 0 => 0 | n => n, fun | n => n⟩
theorem Tryz.laysDf : Go.Proofs.SlLaysH.n10 Tryz.prog Tryz.laysDf_ren := {
  mixed := by kernel_rfl
  f6 := ⟨Tryz.f76.name, by decide, Tryz.func76.trans (congrArg some (by kernel_rfl))⟩
  f10 := ⟨Tryz.f171.name, by decide, Tryz.func171.trans (congrArg some (by kernel_rfl))⟩
  t0 := Tryz.underlying0
  a0 := Tryz.isAgg0
  z0 := Tryz.sizeOf0
  v0 := Tryz.zeroValue0
  t3 := Tryz.underlying3
  a3 := Tryz.isAgg3
  z3 := Tryz.sizeOf3
  v3 := Tryz.zeroValue3
  t4 := Tryz.underlying4
  a4 := Tryz.isAgg4
  z4 := Tryz.sizeOf4
  v4 := Tryz.zeroValue4
  t22 := Tryz.underlying53
  a22 := Tryz.isAgg53
  z22 := Tryz.sizeOf53
  v22 := Tryz.zeroValue53
  a23 := Tryz.isAgg3
  z23 := Tryz.sizeOf3
  t25 := Tryz.underlying136
  a25 := Tryz.isAgg136
  z25 := Tryz.sizeOf136
  v25 := Tryz.zeroValue136 }
def Tryz.laysClA_ren : Go.Shelf.Ren := ⟨fun | 41 => 126 | n => n, fun | 22 => 52 | 23 => 59 | 4 => 4 | n => n, fun | n => n⟩
theorem Tryz.laysClA : Go.Proofs.SlLaysE0.n41 Tryz.prog Tryz.laysClA_ren := {
  mixed := by kernel_rfl
  f41 := ⟨Tryz.f126.name, by decide, Tryz.func126.trans (congrArg some (by kernel_rfl))⟩
  t4 := Tryz.underlying4
  a4 := Tryz.isAgg4
  z4 := Tryz.sizeOf4
  v4 := Tryz.zeroValue4
  t22 := Tryz.underlying52
  a22 := Tryz.isAgg52
  z22 := Tryz.sizeOf52
  v22 := Tryz.zeroValue52 }
def Tryz.laysClF_ren : Go.Shelf.Ren := ⟨fun | 41 => 52 | n => n, fun | 22 => 28 | 23 => 55 | 4 => 4 | n => n, fun | n => n⟩
theorem Tryz.laysClF : Go.Proofs.SlLaysE0.n41 Tryz.prog Tryz.laysClF_ren := {
  mixed := by kernel_rfl
  f41 := ⟨Tryz.f52.name, by decide, Tryz.func52.trans (congrArg some (by kernel_rfl))⟩
  t4 := Tryz.underlying4
  a4 := Tryz.isAgg4
  z4 := Tryz.sizeOf4
  v4 := Tryz.zeroValue4
  t22 := Tryz.underlying28
  a22 := Tryz.isAgg28
  z22 := Tryz.sizeOf28
  v22 := Tryz.zeroValue28 }
end Go.Proofs
end
section
/- apply.take: a node is taken out. -/
namespace Go.Proofs.YthdenkkllpkplaaGreat.Work
open Go Go.RowKit Go.Proofs.YthdenkkllpkplaaGreat.Seq Go.Proofs.YthdenkkllpkplaaGreat.WS Go.Proofs.YthdenkkllpkplaaGreat.FS Go.Proofs.YthdenkkllpkplaaGreat.Mem Go.Proofs.YthdenkkllpkplaaGreat.Rd Go.Proofs.YthdenkkllpkplaaGreat.Shapes Go.Proofs.YthdenkkllpkplaaGreat.Word Go.Proofs.YthdenkkllpkplaaGreat.FFam Go.Proofs.YthdenkkllpkplaaGreat.OwnF
set_option linter.unusedVariables false
set_option linter.unusedSimpArgs false

theorem take1_calls (w : World) (bx wk : Nat) (x k : Int) (hb : w.cell? ⟨bx, 0, none⟩ = some (.pointer (some ⟨wk, 0, none⟩))) (h2 : w.cell? ⟨wk, 2, none⟩ = some (.int .i64 x)) :
    Calls Tryz.prog 172 #[.int .i64 k, .pointer (some ⟨bx, 0, none⟩)] w fun e w' => e = .returned (.bool (k == x)) ∧ ∃ q, w' = w.drewN q := by
  go_enter Tryz.func172, Tryz.ntmps172
  go_wp2_with fail
  go_ret
  exact ⟨rfl, 0, rfl⟩
theorem putRow_below {enc : Int → Value} {w : World} {B g off q : Nat} {d : Array Int} (hB : B ≤ g) (hs : B ≤ w.heap.size) : Below B w (Sort.putRow enc (Sort.ahead w q) g off d) := by
  refine ⟨rfl, rfl, rfl, by simp [Sort.putRow, Sort.mapBlock, Sort.ahead]; try omega, fun j hj => ?_⟩
  simp only [Sort.putRow, Sort.mapBlock, Sort.ahead]
  rw [Array.getElem?_modify, if_neg (by omega)]
theorem deleteFunc_calls (w : World) (B bx wk : Nat) (x : Int) (v : Value) (l : List Int) (h : w.ownsRow B 3 1 v l.length (l.map (Value.int .i64))) (h0 : 0 < l.length) (hl : l.length ≤ 1000) (hw : ∀ y ∈ l, (Lit.int .i64 y).wf = true) (hbB : bx < B) (hwB : wk < B)
    (hb : w.cell? ⟨bx, 0, none⟩ = some (.pointer (some ⟨wk, 0, none⟩))) (h2 : w.cell? ⟨wk, 2, none⟩ = some (.int .i64 x)) (hBs : B ≤ w.heap.size) :
    Calls Tryz.prog 171 #[v, .func (.func 172) #[] #[.pointer (some ⟨bx, 0, none⟩)]] w fun e w' => ∃ v', e = .returned v' ∧ RdS intS 1 (fun b => B ≤ b) w' v' (l.filter (· != x)) ∧ Below B w w' := by
  have hlt := h.lt
  have hcells := fun (g : Nat) (e : v.ownBlock = some g) => h.cells (g := g) e
  rcases h.2 with ⟨_, hn⟩ | ⟨g, cap, cur, rfl, hgb, hgh, hgc, hgm, hcs, _⟩
  · omega
  have hg := (hlt g rfl).1
  have hgs := (hlt g rfl).2
  have hH : Sort.Holds (Value.int .i64) w g 0 l.toArray := fun j hj => by
    have hj' : j < l.length := by simpa using hj
    refine ⟨?_, free_of hgh _⟩
    have := hcells g rfl j (.int .i64 l[j]) (by simp [hj'])
    rw [Addr.add_lit] at this
    rw [this]
    simp [hj']
  have eg : ∀ args w, (callFunc 172 args).run Tryz.prog w = .ok (.enter 172 args) w := enters_of Tryz.func172 (by kernel_rfl) rfl
  have hp : PredAt Tryz.prog 172 #[.pointer (some ⟨bx, 0, none⟩)] (Value.int .i64) (fun k => k == x) w := fun W k hW => take1_calls W bx wk x k (cell_grow hW hb) (cell_grow hW h2)
  have hpo : PredOver Tryz.prog 172 #[.pointer (some ⟨bx, 0, none⟩)] (Value.int .i64) (fun k => k == x) g 0 l.toArray.size w := fun n os dk k _ => by
    have hW : ∀ (a : Nat) (o : Nat) (u : Value), a < B → w.cell? ⟨a, o, none⟩ = some u → (sortWorld (Value.int .i64) w g 0 n dk os).cell? ⟨a, o, none⟩ = some u := fun a o u ha hu => by
      unfold sortWorld
      rw [Sort.cell?_grow _ _ _ (by show a < (Sort.putRow _ _ _ _ _).heap.size; rw [Sort.size_putRow]; show a < w.heap.size; omega), Sort.cell?_putRow_other _ _ g 0 _ _ (Or.inl (by show a ≠ g; omega))]
      exact hu
    exact take1_calls _ bx wk x k (hW bx 0 _ hbB hb) (hW wk 2 _ hwB h2)
  have hcon := AnyE.slices_DeleteFunc Tryz.laysDf (Value.int .i64) (fun _ => rfl) (fun k => k == x) 172 #[.pointer (some ⟨bx, 0, none⟩)] eg 0 Tryz.zeroValue3 g 0 cap l.toArray w hp hpo hH (by simp; omega) (by simpa using hgc)
  have he : (l.toArray.toList.filter fun k => !(k == x)) = l.filter (· != x) := rfl
  rw [he] at hcon
  have hsz : l.toArray.size = l.length := by simp
  rw [hsz] at hcon
  refine hcon.mono ?_
  rintro e w' ⟨rfl, q, rfl⟩
  have hfl : (l.filter (· != x)).length ≤ l.length := List.length_filter_le _ _
  refine ⟨_, rfl, ⟨_, _, rfl, by omega, hgm, fun h1 => ⟨g, 0, rfl, hg, ?_, fun i hi => ⟨[.int .i64 (l.filter (· != x))[i]], rfl, fun j u hj => ?_, rfl, hw _ (List.mem_filter.1 (List.getElem_mem hi)).1⟩⟩⟩, putRow_below hg hBs⟩
  · rw [Sort.size_putRow]; exact hgs
  · have hj0 : j = 0 := by have := (List.getElem?_eq_some_iff.1 hj).1; simp at this; omega
    subst hj0
    simp at hj
    subst hj
    have hHa : Sort.Holds (Value.int .i64) (Sort.ahead w q) g 0 l.toArray := hH
    have := Sort.cell?_putRow (Value.int .i64) (Sort.ahead w q) g 0 l.toArray ((l.filter (· != x)) ++ List.replicate (l.length - (l.filter (· != x)).length) 0).toArray hHa (by simp; omega) i (by simp; omega)
    rw [show 0 + i * 1 + 0 = 0 + i by omega, this]
    simp only [List.getElem!_toArray, List.getElem!_eq_getElem?_getD]
    rw [List.getElem?_append_left hi, List.getElem?_eq_getElem hi]
    rfl
theorem ints_cells {B : Nat} {w : World} {b : Nat} {l : List Int} (hc : ∀ j (hj : j < l.length), w.cell? ⟨b, B + j, none⟩ = some (.int .i64 l[j])) : ∀ j, j < l.length → w.cell? ⟨b, B + j, none⟩ = some (.int .i64 (l.getD j 0)) := fun j hj => by
  rw [hc j hj, List.getD_eq_getElem?_getD, List.getElem?_eq_getElem hj]
  rfl
theorem cloneI_calls (w : World) (v : Value) (l : List Int) (h : RdL (intE .i64) 1 w.heap.size w v l) (hl : l.length ≤ 1000) :
    Calls Tryz.prog 116 #[v] w fun e w' => ∃ v', e = .returned v' ∧ w'.ownsRow w.heap.size 3 1 v' l.length (l.map (Value.int .i64)) ∧ Below w.heap.size w w' := by
  obtain ⟨A, c, rfl, hc, hm, hr⟩ := h
  cases A with
  | none =>
    have hl0 : l = [] := by
      cases l with
      | nil => rfl
      | cons y r => obtain ⟨b, o, e, _⟩ := hr (by simp); cases e
    subst hl0
    refine (Tryz.slices_Clone_int_nil _ _ w).mono ?_
    rintro e w' ⟨rfl, rfl⟩
    exact ⟨_, rfl, World.ownsRow_nil _ _ _ _, Below.refl _ _⟩
  | some a =>
    cases l with
    | nil =>
      refine (Tryz.slices_Clone_int_zero a c w).mono ?_
      rintro e w' ⟨v', rfl, h1, _, h2⟩
      exact ⟨v', rfl, h1, h2⟩
    | cons y r =>
      obtain ⟨b, o, e, hb, hcell⟩ := hr (by simp)
      injection e with e
      subst e
      refine (Tryz.slices_Clone_int b o (y :: r).length c (y :: r) w (Nat.le_refl _) (by omega) (ints_cells (fun j hj => ?_))).mono ?_
      · obtain ⟨cs, h1, h2, h3, _⟩ := hcell j hj
        have := h2 0 (.int .i64 (y :: r)[j]) (by rw [h3]; rfl)
        rwa [Nat.mul_one, Nat.add_zero] at this
      · rintro e w' ⟨v', rfl, h1, _, h2⟩
        rw [List.take_length] at h1
        exact ⟨v', rfl, h1, h2⟩
end Go.Proofs.YthdenkkllpkplaaGreat.Work
end
section
/- apply.take itself. -/
namespace Go.Proofs.YthdenkkllpkplaaGreat.Work
open Go Go.RowKit Go.Proofs.YthdenkkllpkplaaGreat.Seq Go.Proofs.YthdenkkllpkplaaGreat.WS Go.Proofs.YthdenkkllpkplaaGreat.FS Go.Proofs.YthdenkkllpkplaaGreat.Mem Go.Proofs.YthdenkkllpkplaaGreat.Rd Go.Proofs.YthdenkkllpkplaaGreat.Shapes Go.Proofs.YthdenkkllpkplaaGreat.Word Go.Proofs.YthdenkkllpkplaaGreat.FFam Go.Proofs.YthdenkkllpkplaaGreat.OwnF
set_option linter.unusedVariables false
set_option linter.unusedSimpArgs false

section
variable [Avoid] {base wk g c : Nat} {o : Opn} {f : Fo}
/-- The last step of take. -/
theorem alone_facts {f : Fo} {w : World} (h : Wk base wk g c o f w) {k : Nat} (hk : o.id = (k : Int)) (hkl : k < f.length) (pv : Int) (hpv : (Lit.int .i64 pv).wf = true) (n : Nat) :
    (∃ u, (w.drewN n).cell? ⟨g, k * 6 + 4, none⟩ = some (.int .i64 u)) ∧ (w.drewN n).frozen? ⟨g, k * 6 + 4, none⟩ = false ∧
    Wk base wk g c o (f.set k { at_ f (k : Int) with parent := pv }) ((w.drewN n).setCell ⟨g, k * 6 + 4, none⟩ (.int .i64 pv)) ∧ Below base (w.drewN n) ((w.drewN n).setCell ⟨g, k * 6 + 4, none⟩ (.int .i64 pv)) := by
  have hi : isNode f (k : Int) = true := (node_iff _ _).2 ⟨by omega, by omega⟩
  have h' := h.below (drewN_below (Below.refl _ _) n)
  obtain ⟨_, _, _, _, _, _, k4, _, _, _⟩ := h'.node hi
  rw [Int.toNat_natCast] at k4
  have e : at_ f (k : Int) = f[k] := at_nat hkl
  have hput := h'.put (j := 4) (u := .int .i64 pv) (n := { f[k] with parent := pv }) hkl (by decide) (fun cs hcs => by
    obtain ⟨va, vk, rfl, r1, r2, r3, r4, r5, r6⟩ := hcs
    exact ⟨va, vk, rfl, r1, r2, r3, r4, r5, hpv⟩)
  rw [e]
  exact ⟨⟨_, k4⟩, (h'.free (by omega)).1 _, hput.1, hput.2⟩
/-- The kids of a node are stored. -/
theorem kids_put {f : Fo} {w w' : World} (h : Wk base wk g c o f w) {k : Nat} (hkl : k < f.length) (v' : Value) (l : List Int) (hr : RdS intS 1 (fun b => w.heap.size ≤ b) w' v' l) (hb : Below w.heap.size w w') :
    Wk base wk g c o (f.set k { at_ f (k : Int) with kids := l }) (w'.setCell ⟨g, k * 6 + 5, none⟩ v') ∧ Below base w' (w'.setCell ⟨g, k * 6 + 5, none⟩ v') := by
  have h' := h.below hb
  have hgl := (h.base_le (by omega)).2
  have hgb := (h.base_le (by omega)).1
  have hlo := h.lo
  have hwl := lt_heap h.box
  have e : at_ f (k : Int) = f[k] := at_nat hkl
  rw [e]
  exact h'.put (j := 5) (u := v') (n := { f[k] with kids := l }) hkl (by decide) (fun cs hcs => by
    obtain ⟨va, vk, rfl, r1, r2, r3, r4, r5, r6⟩ := hcs
    exact ⟨va, v', rfl, r1, hr.keep (fun _ _ _ => rfl) (Nat.le_refl _) (fun b hb _ => by omega), r3, r4, r5, r6⟩)
end
section
variable {base wk g c : Nat} {o : Opn} {f : Fo}
theorem kids_wf {w : World} {v : Value} {l : List Int} {S : Nat → Prop} (h : RdS intS 1 S w v l) : ∀ y ∈ l, (Lit.int .i64 y).wf = true := by
  intro y hy
  obtain ⟨i, hi, rfl⟩ := List.mem_iff_getElem.1 hy
  obtain ⟨A, c, _, _, _, h3⟩ := h
  obtain ⟨b, o, _, _, _, hc⟩ := h3 (by omega)
  obtain ⟨cs, _, _, _, h5⟩ := hc i hi
  exact h5
end
section
variable [Avoid] {base wk g c : Nat} {o : Opn} {f : Fo}
end
section
variable {base wk g c : Nat} {o : Opn} {f : Fo}
theorem take_top {f : Fo} {k : Nat} (hp : (at_ f (k : Int)).parent = -1) : takeF f (k : Int) = f.set k { at_ f (k : Int) with parent := -1 } := by
  unfold takeF
  simp only [hp, if_true, Int.toNat_natCast]
end
section
variable [Avoid] {base wk g c : Nat} {o : Opn} {f : Fo}
end
section
variable {base wk g c : Nat} {o : Opn} {f : Fo}
theorem take_kid {f : Fo} {k p : Nat} (hp : (at_ f (k : Int)).parent = (p : Int)) : takeF f (k : Int) = (f.set p { at_ f (p : Int) with kids := (at_ f (p : Int)).kids.filter (· != (k : Int)) }).set k { at_ (f.set p { at_ f (p : Int) with kids := (at_ f (p : Int)).kids.filter (· != (k : Int)) }) (k : Int) with parent := -1 } := by
  unfold takeF
  have : ¬ ((p : Int) = -1) := by omega
  simp only [hp, if_neg this, Int.toNat_natCast]
end
section
variable [Avoid] {base wk g c : Nat} {o : Opn} {f : Fo}
theorem node_at2 {f f' : Fo} {w : World} (h : Wk base wk g c o f' w) (hl : f'.length = f.length) {k : Nat} (hk : o.id = (k : Int)) (hkl : k < f.length) :
    Calls Tryz.prog 114 #[.pointer (some ⟨wk, 0, none⟩)] w fun e w' => e = .returned (.pointer (some ⟨g, k * 6, none⟩)) ∧ ∃ n, w' = w.drewN n := by
  have := node_calls w h (by rw [hk]; exact (node_iff _ _).2 ⟨by omega, by omega⟩)
  rw [hk] at this
  exact this
set_option maxHeartbeats 20000000 in
theorem take_do (hm : mayB f = true) (hi : isNode f o.id = true) (hbw : base ≤ wk) : Do 113 base wk g c o f (takeF f o.id) := by
  intro w h
  have hfam := may_family hm
  obtain ⟨k, hk, hkl⟩ := node_nat hi
  rw [hk]
  have hi' := hi
  rw [hk] at hi'
  obtain ⟨_, _, _, _, _, _, k4, _, _, _⟩ := h.node hi'
  rw [Int.toNat_natCast] at k4
  have hbs := h.base_size (by omega)
  have h4 := fun w' (hb : Below w.heap.size w w') => cell_grow hb k4
  have hn := fun (f' : Fo) w' (h : Wk base wk g c o f' w') (hl : f'.length = f.length) => node_at2 h hl hk hkl
  have Hn := Lib.hid hn; have H4 := Lib.hid h4; have H := Lib.hid h; have Hk := Lib.hid hk; have Hm := Lib.hid hm; have Hi := Lib.hid hi'; have Hfam := Lib.hid hfam
  have hwl := lt_heap h.box
  have hgl := (h.base_le (by omega)).2
  have hgb := (h.base_le (by omega)).1
  clear hn h4 h hk hm hi hi' k4 hfam
  obtain ⟨pr, hpr⟩ : ∃ pr, (at_ f (k : Int)).parent = pr := ⟨_, rfl⟩
  rw [hpr] at H4
  have Hpr := Lib.hid hpr
  clear hpr
  by_cases hp1 : pr = -1
  · subst hp1
    go_enter Tryz.func113, Tryz.ntmps113
    go_wp2_with fail
    obtain ⟨bx, hbx⟩ : ∃ bx, bx = w.heap.size := ⟨_, rfl⟩
    obtain ⟨w1, hw1⟩ : ∃ w1, w.alloc (.cells #[.pointer (some ⟨wk, 0, none⟩)] 107) = w1 := ⟨_, rfl⟩
    have hb1 : Below w.heap.size w w1 := by rw [← hw1]; exact (Below.refl _ _).alloc (Nat.le_refl _) _
    have q : w1.cell? ⟨bx, 0, none⟩ = some (.pointer (some ⟨wk, 0, none⟩)) := by rw [← hw1, hbx]; exact (cell_of_row _ _ _ _ _ _ (World.alloc_heap_new _ _)).trans rfl
    have hn1 := Hn.out f _ (H.out.below hb1) rfl
    have Hn1 := Lib.hid hn1; have Hb1 := Lib.hid hb1; have Hq := Lib.hid q
    rw [hw1, ← hbx]
    have k6 := H4.out _ Hb1.out
    have f6 := ((H.out.below Hb1.out).free (by omega)).1 (k * 6 + 4)
    clear hn1 hb1 hw1 q hbx
    go_wp2_with (first
      | (go_at_call 114; (with_reducible refine (Hn1.out).mono ?_); rintro e w5 ⟨rfl, n5, rfl⟩; have hb5 := drewN_below Hb1.out n5; have p4 := H4.out _ hb5; have q5 := cell_grow (drewN_below (Below.refl _ w1) n5) Hq.out; have hn5 := Hn.out f _ (H.out.below hb5) rfl; have Hn5 := Lib.hid hn5; have Hb5 := Lib.hid hb5; clear hb5 hn5)
      | (go_at_call 114; (with_reducible refine (Hn5.out).mono ?_); rintro e w6 ⟨rfl, n6, rfl⟩; have hp6 := (alone_facts (H.out.below Hb1.out) Hk.out hkl (-1) rfl (n5 + n6)).2.2; have Hp6 := Lib.hid hp6; clear hp6))
    first | go_end0 | refine bodyPost_ret (results_none rfl _ _ _) rfl ?_
    rw [take_top Hpr.out]
    exact ⟨rfl, _, _, Hp6.out.1, (((drewN_below Hb1.out (n5 + n6))).mono hbs).trans Hp6.out.2⟩
  · have hpn := kid_of_parent Hfam.out Hi.out (by
      have := (fam_parent Hfam.out Hi.out).1
      rw [Hpr.out] at this ⊢
      omega)
    rw [Hpr.out] at hpn
    obtain ⟨p, rfl, hpl⟩ := node_nat hpn.1
    have e1 : ((p : Int) != -1) = true := by rw [bne_iff_ne]; omega
    have hmem := List.length_pos_of_mem hpn.2
    have hlen := may_kids Hm.out f[p] (List.getElem_mem _)
    rw [← at_nat hpl] at hlen
    obtain ⟨_, vk, _, _, _, _, _, k5, _, rk⟩ := H.out.node hpn.1
    rw [Int.toNat_natCast] at k5
    obtain ⟨Ak, ck, rfl, hck, hcm⟩ := rk.form
    have hwf := kids_wf rk
    have hc5 := fun w' (hb : Below w.heap.size w w') => (⟨cell_grow hb H.out.cells.1, cell_grow hb k5, ((H.out.below hb).free (by omega)).1 (p * 6 + 5)⟩ : w'.cell? ⟨wk, 0, none⟩ = some (.slice (some ⟨g, 0, none⟩) f.length c) ∧ w'.cell? ⟨g, p * 6 + 5, none⟩ = some (.slice Ak (at_ f (p : Int)).kids.length ck) ∧ w'.frozen? ⟨g, p * 6 + 5, none⟩ = false)
    have hrk := fun w' (hb : Below w.heap.size w w') => (rk.keep (fun b _ hl => hb.block b hl) hb.size (fun b x _ => x)).rd
    have hcl : ∀ W, Below w.heap.size w W → Calls Tryz.prog 116 #[.slice Ak (at_ f (p : Int)).kids.length ck] W fun e w' => ∃ v', e = .returned v' ∧ w'.ownsRow W.heap.size 3 1 v' (at_ f (p : Int)).kids.length ((at_ f (p : Int)).kids.map (Value.int .i64)) ∧ Below W.heap.size W w' := fun W hW => cloneI_calls W _ _ (hrk W hW) (by omega)
    have h2c := fun w' (hb : Below w.heap.size w w') => cell_grow hb H.out.cells.2.2.1
    rw [Hk.out] at h2c
    have hdel : ∀ (B bx : Nat) (v' : Value) (W : World), Below w.heap.size w W → W.ownsRow B 3 1 v' (at_ f (p : Int)).kids.length ((at_ f (p : Int)).kids.map (Value.int .i64)) → bx < B → wk < B → B ≤ W.heap.size → W.cell? ⟨bx, 0, none⟩ = some (.pointer (some ⟨wk, 0, none⟩)) →
        Calls Tryz.prog 171 #[v', .func (.func 172) #[] #[.pointer (some ⟨bx, 0, none⟩)]] W fun e w' => ∃ v'', e = .returned v'' ∧ RdS intS 1 (fun b => B ≤ b) w' v'' ((at_ f (p : Int)).kids.filter (· != (k : Int))) ∧ Below B W w' :=
      fun B bx v' W hW ho hbB hwB hBs hbc => deleteFunc_calls W B bx wk k v' _ ho hmem (by omega) hwf hbB hwB hbc (h2c W hW) hBs
    have Hcl := Lib.hid hcl; have Hdel := Lib.hid hdel; have Hc5 := Lib.hid hc5
    have hpn2 : (p : Int) < f.length := by omega
    have hlc := H.out.big
    clear hrk hcl hdel hc5 h2c hwf rk k5 hmem hpn hlen
    generalize (at_ f (p : Int)).kids.length = np at *
    go_enter Tryz.func113, Tryz.ntmps113
    go_wp2_with fail
    obtain ⟨bx, hbx⟩ : ∃ bx, bx = w.heap.size := ⟨_, rfl⟩
    obtain ⟨w1, hw1⟩ : ∃ w1, w.alloc (.cells #[.pointer (some ⟨wk, 0, none⟩)] 107) = w1 := ⟨_, rfl⟩
    have hb1 : Below w.heap.size w w1 := by rw [← hw1]; exact (Below.refl _ _).alloc (Nat.le_refl _) _
    have q : w1.cell? ⟨bx, 0, none⟩ = some (.pointer (some ⟨wk, 0, none⟩)) := by rw [← hw1, hbx]; exact (cell_of_row _ _ _ _ _ _ (World.alloc_heap_new _ _)).trans rfl
    have hbl : bx < w1.heap.size := by rw [← hw1, hbx]; simp
    have hbg : bx ≠ g := by omega
    have hn1 := Hn.out f _ (H.out.below hb1) rfl
    have Hn1 := Lib.hid hn1; have Hb1 := Lib.hid hb1; have Hq := Lib.hid q
    rw [hw1, ← hbx]
    clear hn1 hb1 hw1 q hbx
    go_upto_region 3 with (go_at_call 114; (with_reducible refine (Hn1.out).mono ?_); rintro e w5 ⟨rfl, n5, rfl⟩; have hb5 := drewN_below Hb1.out n5; have p4 := H4.out _ hb5; have q5 := cell_grow (drewN_below (Below.refl _ w1) n5) Hq.out; have Hb5 := Lib.hid hb5; clear hb5)
    obtain ⟨w3, hw3⟩ : ∃ w3, w1.drewN n5 = w3 := ⟨_, rfl⟩
    have hb3 : Below w.heap.size w w3 := by rw [← hw3]; exact Hb5.out
    have hb13 : w1.heap.size ≤ w3.heap.size := by rw [← hw3]; exact Nat.le_refl _
    rw [hw3] at q5 ⊢
    have hbl3 : bx < w3.heap.size := by omega
    have hwl3 : wk < w3.heap.size := by have := hb3.size; omega
    obtain ⟨c0, c5, f5⟩ := Hc5.out _ hb3
    have Hb3 := Lib.hid hb3
    clear hb3 hb13 hw3 p4 Hb5 Hn1 Hb1 Hq
    have hcl3 : ∀ W, (W = w3 ∨ W = w3.drew) → Calls Tryz.prog 116 #[.slice Ak np ck] W fun e w' => ∃ v', e = .returned v' ∧ w'.ownsRow w3.heap.size 3 1 v' np ((at_ f (p : Int)).kids.map (Value.int .i64)) ∧ Below w3.heap.size w3 w' := by
      rintro W (rfl | rfl)
      · exact Hcl.out _ Hb3.out
      · exact (Hcl.out w3.drew Hb3.out.drew).mono (fun e w' ⟨v', h1, h2, h3⟩ => ⟨v', h1, h2, (Below.refl _ w3).drew.trans h3⟩)
    have hdel3 : ∀ v' w6, w6.ownsRow w3.heap.size 3 1 v' np ((at_ f (p : Int)).kids.map (Value.int .i64)) → Below w3.heap.size w3 w6 → ∀ W, (W = w6 ∨ W = w6.drew) →
        Calls Tryz.prog 171 #[v', .func (.func 172) #[] #[.pointer (some ⟨bx, 0, none⟩)]] W fun e w' => ∃ v'', e = .returned v'' ∧ RdS intS 1 (fun b => w3.heap.size ≤ b) w' v'' ((at_ f (p : Int)).kids.filter (· != (k : Int))) ∧ Below w3.heap.size w3 w' := by
      rintro v' w6 ho hb6 W (rfl | rfl)
      · exact (Hdel.out w3.heap.size bx v' W (bthen Hb3.out hb6) ho hbl3 hwl3 hb6.size (cell_grow hb6 q5)).mono (fun e w' ⟨v'', h1, h2, h3⟩ => ⟨v'', h1, h2, hb6.trans h3⟩)
      · exact (Hdel.out w3.heap.size bx v' w6.drew (bthen Hb3.out hb6).drew ho.drew hbl3 hwl3 hb6.size (cell_grow hb6.drew q5)).mono (fun e w' ⟨v'', h1, h2, h3⟩ => ⟨v'', h1, h2, hb6.drew.trans h3⟩)
    have hce : ∀ w', Below w3.heap.size w3 w' → w'.cell? ⟨bx, 0, none⟩ = some (.pointer (some ⟨wk, 0, none⟩)) ∧ w'.cell? ⟨wk, 0, none⟩ = some (.slice (some ⟨g, 0, none⟩) f.length c) ∧ w'.cell? ⟨g, p * 6 + 5, none⟩ = some (.slice Ak np ck) ∧ w'.frozen? ⟨g, p * 6 + 5, none⟩ = false := fun w' hb => ⟨cell_grow hb q5, Hc5.out _ (bthen Hb3.out hb)⟩
    have Hcl3 := Lib.hid hcl3; have Hdel3 := Lib.hid hdel3; have Hce := Lib.hid hce
    clear hcl3 hdel3 hce Hcl Hdel
    have hnw := H.out.ne
    refine wp_region_held_drew (S := (fun w' => w'.cell? ⟨bx, 0, none⟩ = some (.pointer (some ⟨wk, 0, none⟩)) ∧ w'.cell? ⟨wk, 0, none⟩ = some (.slice (some ⟨g, 0, none⟩) f.length c))) (by kernel_rfl) ⟨q5, c0⟩ (fun hHeld => ?_)
    refine' wpAnyH_take (i := 0) (v := ?v0) rfl (by kernel_rfl) (by kernel_rfl) (by kernel_rfl) (fun _ _ _ h => h) (Or.inl ⟨by rfl, ?hy0⟩) (by assumption) ?rest0
    case hy0 => (intro w hSw; (try dsimp only at hSw); go_simp; (try with_reducible rfl))
    (try simp only [Act.put, List.setIfInBounds_toArray, List.set_cons_zero, List.set_cons_succ])
    refine' wpAnyH_take (i := 1) (v := ?v1) rfl (by kernel_rfl) (by kernel_rfl) (by kernel_rfl) (fun _ _ _ h => h) (Or.inl ⟨by rfl, ?hy1⟩) (by assumption) ?rest1
    case hy1 => (intro w hSw; (try dsimp only at hSw); go_simp; (try with_reducible rfl))
    (try simp only [Act.put, List.setIfInBounds_toArray, List.set_cons_zero, List.set_cons_succ])
    refine' wpAnyH_take (i := 2) (v := ?v2) rfl (by kernel_rfl) (by kernel_rfl) (by kernel_rfl) (fun _ _ _ h => h) (Or.inl ⟨by rfl, ?hy2⟩) (by assumption) ?rest2
    case hy2 => (intro w hSw; (try dsimp only at hSw); go_simp; (try with_reducible rfl))
    (try simp only [Act.put, List.setIfInBounds_toArray, List.set_cons_zero, List.set_cons_succ])
    refine' wpAnyH_take (i := 3) (v := ?v3) rfl (by kernel_rfl) (by kernel_rfl) (by kernel_rfl) (fun _ _ _ h => h) (Or.inl ⟨by rfl, ?hy3⟩) (by assumption) ?rest3
    case hy3 => (intro w hSw; (try dsimp only at hSw); go_simp; (try with_reducible rfl))
    (try simp only [Act.put, List.setIfInBounds_toArray, List.set_cons_zero, List.set_cons_succ])
    refine' wpAnyH_take (i := 4) (v := ?v4) rfl (by kernel_rfl) (by kernel_rfl) (by kernel_rfl) (fun _ _ _ h => h) (Or.inl ⟨by rfl, ?hy4⟩) (by assumption) ?rest4
    case hy4 => (intro w hSw; (try dsimp only at hSw); go_simp; (try with_reducible rfl))
    (try simp only [Act.put, List.setIfInBounds_toArray, List.set_cons_zero, List.set_cons_succ])
    refine' wpAnyH_take (i := 5) (v := ?v5) rfl (by kernel_rfl) (by kernel_rfl) (by kernel_rfl) (fun _ _ _ h => h) (Or.inl ⟨by rfl, ?hy5⟩) (by assumption) ?rest5
    case hy5 => (intro w hSw; (try dsimp only at hSw); go_simp; (try with_reducible rfl))
    (try simp only [Act.put, List.setIfInBounds_toArray, List.set_cons_zero, List.set_cons_succ])
    refine' wpAnyH_take (i := 6) (v := ?v6) rfl (by kernel_rfl) (by kernel_rfl) (by kernel_rfl) (fun _ _ _ h => h) (Or.inl ⟨by rfl, ?hy6⟩) (by assumption) ?rest6
    case hy6 => (intro w hSw; (try dsimp only at hSw); go_simp; (try with_reducible rfl))
    (try simp only [Act.put, List.setIfInBounds_toArray, List.set_cons_zero, List.set_cons_succ])
    refine' wpAnyH_take (i := 7) (v := ?v7) rfl (by kernel_rfl) (by kernel_rfl) (by kernel_rfl) (fun _ _ _ h => h) (Or.inl ⟨by rfl, ?hy7⟩) (by assumption) ?rest7
    case hy7 => (intro w hSw; (try dsimp only at hSw); go_simp; (try with_reducible rfl))
    (try simp only [Act.put, List.setIfInBounds_toArray, List.set_cons_zero, List.set_cons_succ])
    refine' wpAnyH_take (i := 8) (v := ?v8) rfl (by kernel_rfl) (by kernel_rfl) (by kernel_rfl) (fun _ _ _ h => h) (Or.inl ⟨by rfl, ?hy8⟩) (by assumption) ?rest8
    case hy8 => (intro w hSw; (try dsimp only at hSw); go_simp; (try with_reducible rfl))
    (try simp only [Act.put, List.setIfInBounds_toArray, List.set_cons_zero, List.set_cons_succ])
    refine' wpAnyH_take (i := 9) (v := ?v9) rfl (by kernel_rfl) (by kernel_rfl) (by kernel_rfl) (fun _ _ _ h => h) (Or.inl ⟨by rfl, ?hy9⟩) (by assumption) ?rest9
    case hy9 => (intro w hSw; (try dsimp only at hSw); go_simp; (try with_reducible rfl))
    (try simp only [Act.put, List.setIfInBounds_toArray, List.set_cons_zero, List.set_cons_succ])
    refine' wpAnyH_take (i := 10) (v := ?v10) rfl (by kernel_rfl) (by kernel_rfl) (by kernel_rfl) (fun _ _ _ h => h) (Or.inl ⟨by rfl, ?hy10⟩) (by assumption) ?rest10
    case hy10 => (intro w hSw; (try dsimp only at hSw); go_simp; (try with_reducible rfl))
    (try simp only [Act.put, List.setIfInBounds_toArray, List.set_cons_zero, List.set_cons_succ])
    refine' wpAnyH_take (i := 11) (v := ?v11) rfl (by kernel_rfl) (by kernel_rfl) (by kernel_rfl) (fun _ _ _ h => h) (Or.inl ⟨by rfl, ?hy11⟩) (by assumption) ?rest11
    case hy11 => (intro w hSw; (try dsimp only at hSw); go_simp; (try with_reducible rfl))
    (try simp only [Act.put, List.setIfInBounds_toArray, List.set_cons_zero, List.set_cons_succ])
    refine' wpAnyH_take (i := 14) (v := ?v14) rfl (by kernel_rfl) (by kernel_rfl) (by kernel_rfl) (fun _ _ _ h => h) (Or.inl ⟨by rfl, ?hy14⟩) (by assumption) ?rest14
    case hy14 => (intro w hSw; (try dsimp only at hSw); go_simp; (try with_reducible rfl))
    (try simp only [Act.put, List.setIfInBounds_toArray, List.set_cons_zero, List.set_cons_succ])
    refine wpAnyH_ready (rs := [12]) (by kernel_rfl) (by simp) ?_
    refine AllReadyH.cons rfl (fun K hK => ?_) AllReadyH.nil
    go_simp
    refine hK.out _ _ hHeld (fun hHeld => ?_)
    clear hK K
    (try simp only [Act.put, List.setIfInBounds_toArray, List.set_cons_zero, List.set_cons_succ])
    refine wpAnyH_ready (rs := [13]) (by kernel_rfl) (by simp) ?_
    refine AllReadyH.cons rfl (fun K hK => ?_) AllReadyH.nil
    go_simp
    go_at_call 116
    refine (Hcl3.out _ (.inr rfl)).mono ?_
    rintro e w6 ⟨v6, rfl, ho6, hb6⟩
    obtain ⟨d1, d2, d3, d4⟩ := Hce.out _ hb6
    have Ho6 := Lib.hid ho6; have Hb6 := Lib.hid hb6
    clear ho6 hb6
    go_simp
    refine hK.out _ _ ⟨d1, d2⟩ (fun hHeld => ?_)
    clear hK K
    (try simp only [Act.put, List.setIfInBounds_toArray, List.set_cons_zero, List.set_cons_succ])
    refine wpAnyH_ready (rs := [15]) (by kernel_rfl) (by simp) ?_
    refine AllReadyH.cons rfl (fun K hK => ?_) AllReadyH.nil
    go_simp
    go_at_call 171
    refine (Hdel3.out _ _ Ho6.out Hb6.out _ (.inl rfl)).mono ?_
    rintro e w7 ⟨v7, rfl, hr7, hb7⟩
    obtain ⟨A7, c7, rfl, _, _⟩ := hr7.form
    obtain ⟨s1, s2, s3, s4⟩ := Hce.out _ hb7
    have Hr7 := Lib.hid hr7; have Hb7 := Lib.hid hb7
    clear hr7 hb7
    go_simp
    refine hK.out _ _ ⟨s1, s2⟩ (fun hHeld => ?_)
    clear hK K
    (try simp only [Act.put, List.setIfInBounds_toArray, List.set_cons_zero, List.set_cons_succ])
    refine' wpAnyH_take (i := 16) (v := ?v16) rfl (by kernel_rfl) (by kernel_rfl) (by kernel_rfl) (fun _ _ _ h => h) (Or.inl ⟨by rfl, ?hy16⟩) (by assumption) ?rest16
    case hy16 => (intro w hSw; (try dsimp only at hSw); go_simp; (try with_reducible rfl))
    (try simp only [Act.put, List.setIfInBounds_toArray, List.set_cons_zero, List.set_cons_succ])
    refine' wpAnyH_take (i := 17) (v := ?v17) rfl (by kernel_rfl) (by kernel_rfl) (by kernel_rfl) (fun _ _ _ h => h) (Or.inl ⟨by rfl, ?hy17⟩) (by assumption) ?rest17
    case hy17 => (intro w hSw; (try dsimp only at hSw); go_simp; (try with_reducible rfl))
    (try simp only [Act.put, List.setIfInBounds_toArray, List.set_cons_zero, List.set_cons_succ])
    refine wpAnyH_ready (rs := [18]) (by kernel_rfl) (by simp) ?_
    refine AllReadyH.cons rfl (fun K hK => ?_) AllReadyH.nil
    go_simp
    refine hK.out _ _ ⟨(OwnF.cell_same (Below.heap_setCell _ _ _ _ hbg) _).trans s1, (OwnF.cell_same (Below.heap_setCell _ _ _ _ (fun e => hnw e.symm)) _).trans s2⟩ (fun hHeld => ?_)
    clear hK K
    (try simp only [Act.put, List.setIfInBounds_toArray, List.set_cons_zero, List.set_cons_succ])
    refine wpAnyH_done (by kernel_rfl) ?_ _
    obtain ⟨w8, hw8⟩ : ∃ w8, w7.setCell ⟨g, p * 6 + 5, none⟩ (.slice A7 ((at_ f (p : Int)).kids.filter (· != (k : Int))).length c7) = w8 := ⟨_, rfl⟩
    have hkp := kids_put (H.out.below Hb3.out) hpl _ _ Hr7.out Hb7.out
    have hq8 := hHeld.1
    rw [hw8] at hkp hq8 ⊢
    obtain ⟨hW8, hB8⟩ := hkp
    have hkl8 : k < (f.set p { at_ f (p : Int) with kids := (at_ f (p : Int)).kids.filter (· != (k : Int)) }).length := by rw [List.length_set]; exact hkl
    have hn8 := Hn.out _ w8 hW8 (by rw [List.length_set])
    have hal := fun n => alone_facts hW8 Hk.out hkl8 (-1) rfl n
    obtain ⟨u8, k8⟩ : ∃ u, w8.cell? ⟨g, k * 6 + 4, none⟩ = some (.int .i64 u) := (hal 0).1
    have f8 : w8.frozen? ⟨g, k * 6 + 4, none⟩ = false := (hal 0).2.1
    have hBB : Below base w w8 := ((Hb3.out.mono hbs).trans (Hb7.out.mono (by have := Hb3.out.size; omega))).trans hB8
    have HBB := Lib.hid hBB; have Hn8 := Lib.hid hn8; have Hal := Lib.hid hal
    clear hW8 hB8 hn8 hal hBB hw8 hHeld Hb7 Hr7 Ho6 Hb6 s1 s2 s3 s4 d1 d2 d3 d4 Hce Hdel3 Hcl3
    go_wp2_with (go_at_call 114; ((with_reducible refine (Hn8.out).mono ?_); rintro e w9 ⟨rfl, n9, rfl⟩))
    first | go_end0 | refine bodyPost_ret (results_none rfl _ _ _) rfl ?_
    rw [take_kid Hpr.out]
    exact ⟨rfl, _, _, (Hal.out n9).2.2.1, (HBB.out.trans (drewN_below (Below.refl _ _) n9)).trans (Hal.out n9).2.2.2⟩
end
end Go.Proofs.YthdenkkllpkplaaGreat.Work
end
