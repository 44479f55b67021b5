import Derived.Ground.Names2Prog
import Derived.Shelf.Spec.SlicesInsert
import Derived.Shelf.Spec.SlicesInsertGrow
import Derived.Test.YtmbhkkophkccbaaGreatProg
import Derived.Test.YtmbhkkophkccbaaGreatC12
section
namespace Go.Proofs.YtmbhkkophkccbaaGreat.Work
open Go Go.RowKit Go.Proofs.YtmbhkkophkccbaaGreat.Seq WS FS Mem Rd Shapes Word FFam OwnF
set_option linter.unusedVariables false
set_option linter.unusedSimpArgs false

section
variable [Avoid] {base wk g c : Nat} {o : Opn} {f : Fo}
set_option maxRecDepth 100000 in
set_option maxHeartbeats 4000000 in
theorem unset_do (hi : isNode f o.id = true) (hla : (at_ f o.id).attrs.length ≤ 8) (hh : hasA f o = true) : Do 182 base wk g c o f (f.set o.id.toNat { at_ f o.id with attrs := delA (at_ f o.id).attrs o.name }) := by
 intro w h
 have ha := attribute_calls w h hi
 obtain ⟨k, hk, hkl⟩ := node_nat hi
 unfold hasA at hh
 rw [hk] at hla hh ha ⊢
 rw [Int.toNat_natCast]
 obtain ⟨j, hfa⟩ := Option.isSome_iff_exists.1 hh
 obtain ⟨hj, hjn⟩ := findA_some hfa
 have hix : idxP (at_ f (k : Int)).attrs (nameP o) = (j : Int) := by unfold idxP; rw [show (at_ f (k : Int)).attrs.findIdx? (nameP o) = some j from hfa]
 rw [hix] at ha
 have hdel : delA (at_ f (k : Int)).attrs o.name = (at_ f (k : Int)).attrs.eraseIdx j := by unfold delA; rw [hfa]
 have hi' := hi
 rw [hk] at hi'
 obtain ⟨va, _, _, _, _, k3, _, _, ra, _⟩ := h.node hi'
 rw [Int.toNat_natCast] at k3
 have hbs := h.base_size (by omega)
 have hn := fun w' (hb : Below w.heap.size w w') => (node_at2 (h.below hb) rfl hk hkl).mono (fun e w'' (he : e = .returned (.pointer (some ⟨g, k * 6, none⟩)) ∧ ∃ n, w'' = w'.drewN n) => (show e = .returned (.pointer (some ⟨g, k * 6, none⟩)) ∧ Below w'.heap.size w' w'' from ⟨he.1, by obtain ⟨n, hn⟩ := he.2; rw [hn]; exact drewN_below (Below.refl _ _) n⟩))
 have hcl := fun w' (hb : Below w.heap.size w w') => cloneA_calls w' va _ ((ra.keep (w' := w') (fun b _ hl => hb.block b hl) hb.size (fun b x _ => x)).rd) (by omega)
 have hc3 := fun w' (hb : Below w.heap.size w w') => cell_grow hb k3
 have hf3 := fun w' (hb : Below w.heap.size w w') => ((h.below hb).free (by omega)).1 (k * 6 + 3)
 obtain ⟨Aa, ca, rfl, hca, hcm⟩ := ra.form
 have hgl := (h.base_le (by omega)).2
 have hgb := (h.base_le (by omega)).1
 have hsm : ∀ a ∈ (at_ f (k : Int)).attrs, a.name.size ≤ maxLen ∧ a.value.size ≤ maxLen := Its.attrs_small (ra.rd)
 have hde := fun (w' : World) (B : Nat) (v : Value) (ho : w'.ownsRow B 112 2 v (at_ f (k : Int)).attrs.length (Its.atCells (at_ f (k : Int)).attrs)) => deleteA_calls w' B v (at_ f (k : Int)).attrs j ho hj (by omega) hsm
 have fin : ∀ (w8 : World) (v' : Value), Below w.heap.size w w8 → RdS attrS 2 (fun b => w.heap.size ≤ b) w8 v' ((at_ f (k : Int)).attrs.eraseIdx j) →
   DoPost base wk o (f.set k { at_ f (k : Int) with attrs := delA (at_ f (k : Int)).attrs o.name }) w (.returned (.tuple #[])) (w8.setCell ⟨g, k * 6 + 3, none⟩ v') := by
  intro w8 v' hb8 hr
  rw [hdel]
  exact ⟨rfl, g, c, attrs_put h hkl v' _ (fun b hb hne => (Below.heap_setCell _ _ _ _ hne).trans (hb8.block b hb)) (setCell_block (hb8.block g hgl)) (by have := hb8.size; simp [World.setCell]; exact this) (hr.keep (fun b hb _ => Below.heap_setCell _ _ _ _ (fun e => by have h1 : w.heap.size ≤ b := hb; have e2 : b = g := e; omega)) (by simp [World.setCell]) (fun b x _ => x)), (hb8.mono hbs).setCell hgb _⟩
 have Ha := Lib.hid ha; have Hn := Lib.hid hn; have Hcl := Lib.hid hcl; have Hc3 := Lib.hid hc3; have Hf3 := Lib.hid hf3; have Hde := Lib.hid hde; have Fin := Lib.hid fin
 have hw1 : IntKind.i64.wrap ((j : Int) + 1) = (j : Int) + 1 := by rw [IntKind.wrap_i64]; omega
 clear ha hn hcl hc3 hf3 hde fin h hk hi hi' hfa hjn hix hdel hh ra hsm k3
 go_enter Tryz.func182, Tryz.ntmps182
 go_wp2_with (first
  | (go_at_call 179; ((with_reducible refine (Ha.out).mono ?_); rintro e w2 ⟨rfl, hb2⟩; have hb3 := hb2; have Hb2 := Lib.hid hb2; clear hb2; have hn3 := Hn.out _ hb3; have HN := Lib.hid hn3; clear hn3; have HB := Lib.hid hb3; clear hb3))
  | (go_at_call 173; ((with_reducible refine (HN.out).mono ?_); rintro e w3 ⟨rfl, hb3'⟩; have hb3 := bthen HB.out hb3'; clear hb3'; have hn3 := Hn.out _ hb3; have p3 := Hc3.out _ hb3; clear HN HB; have HN := Lib.hid hn3; clear hn3; have HB := Lib.hid hb3; clear hb3))
  | (go_at_call 184; ((with_reducible refine (Hcl.out _ HB.out).mono ?_); rintro e w6 ⟨v6, rfl, ho6, hb6⟩; have hs6 := HB.out.size; have Ho6 := Lib.hid ho6; have Hb6 := Lib.hid (bthen HB.out hb6); clear ho6 hb6))
  | (go_at_call 183; ((with_reducible refine (Hde.out _ _ _ Ho6.out).mono ?_); rintro e w7 ⟨v7, rfl, hr7, hb7⟩; obtain ⟨A7, c7, rfl, _, _⟩ := hr7.form; have hb8 := Hb6.out.trans (hb7.mono hs6); have q3 := Hc3.out _ hb8; have q3f := Hf3.out _ hb8; have Hr7 := Lib.hid (hr7.keep (S' := fun b => w.heap.size ≤ b) (fun _ _ _ => rfl) (Nat.le_refl _) (fun b x _ => Nat.le_trans hs6 x)); have Hb7 := Lib.hid hb8; clear hr7 hb7 hb8)))
 first | go_end0 | refine bodyPost_ret (results_none rfl _ _ _) rfl ?_
 exact Fin.out _ _ Hb7.out Hr7.out
end
end Go.Proofs.YtmbhkkophkccbaaGreat.Work
end
section
namespace Go.Proofs
open Go.Shelf
def Tryz.laysIns_ren : Go.Shelf.Ren := ⟨fun | 21 => 174 | 27 => 214 | 28 => 215 | 35 => 235 | 39 => 115 | n => n, fun | 22 => 34 | 3 => 3 | 4 => 4 | 0 => 0 | n => n, fun | n => n⟩
theorem Tryz.laysIns : Go.Proofs.Lays2.n21 Tryz.prog Tryz.laysIns_ren := {
 mixed := by kernel_rfl
 f21 := Tryz.func174.trans (congrArg some (by kernel_rfl))
 f27 := Tryz.func214.trans (congrArg some (by kernel_rfl))
 f28 := Tryz.func215.trans (congrArg some (by kernel_rfl))
 f35 := Tryz.func235.trans (congrArg some (by kernel_rfl))
 f39 := Tryz.func115.trans (congrArg some (by kernel_rfl))
 t0 := Tryz.underlying0
 a0 := Tryz.isAgg0
 z0 := Tryz.sizeOf0
 v0 := Tryz.zeroValue0
 t3 := Tryz.underlying3
 a3 := Tryz.isAgg3
 z3 := Tryz.sizeOf3
 v3 := Tryz.zeroValue3
 t4 := Tryz.underlying4
 a4 := Tryz.isAgg4
 z4 := Tryz.sizeOf4
 v4 := Tryz.zeroValue4
 t22 := Tryz.underlying34
 a22 := Tryz.isAgg34
 z22 := Tryz.sizeOf34
 v22 := Tryz.zeroValue34
 i3 := by kernel_rfl }
end Go.Proofs
end
section
namespace Go.Proofs.YtmbhkkophkccbaaGreat.Work
open Go Go.RowKit Go.Proofs.YtmbhkkophkccbaaGreat.Seq WS FS Mem Rd Shapes Word FFam OwnF
set_option linter.unusedVariables false
set_option linter.unusedSimpArgs false

theorem insertL_length {l : List Int} {i : Nat} (x : Int) (hi : i ≤ l.length) : (insertL l i x).length = l.length + 1 := by
 unfold insertL
 simp
 omega
theorem insertL_get {l : List Int} {i : Nat} {x : Int} (hi : i ≤ l.length) {j : Nat} (hj : j < (insertL l i x).length) : (insertL l i x)[j]? = if j < i then l[j]? else if j = i then some x else l[j - 1]? := by
 unfold insertL
 have hlt : (l.take i).length = i := by simp; omega
 rw [List.getElem?_append, hlt]
 split
 ·rw [List.getElem?_take, if_pos (by assumption)]
 ·split
  ·rename_i h1 h2
   subst h2
   rw [Nat.sub_self]
   rfl
  ·rename_i h1 h2
   rw [show j - i = (j - i - 1) + 1 by omega, List.getElem?_cons_succ, List.getElem?_drop, show i + (j - i - 1) = j - 1 by omega]
theorem RdS_ints {S : Nat → Prop} {w : World} {b c : Nat} {l : List Int} (n : Nat) (hn : l.length = n) (hc : l.length ≤ c) (hm : c ≤ maxLen) (hS : S b) (hlt : b < w.heap.size) (hcell : ∀ j (hj : j < l.length), w.cell? ⟨b, j, none⟩ = some (.int .i64 l[j])) (hw : ∀ y ∈ l, (Lit.int .i64 y).wf = true) :
  RdS intS 1 S w (.slice (some ⟨b, 0, none⟩) n c) l := by
 subst hn
 refine ⟨_, _, rfl, hc, hm, fun h1 => ⟨b, 0, rfl, hS, hlt, fun i hi => ⟨[.int .i64 l[i]], rfl, fun j u hj => ?_, rfl, hw _ (List.getElem_mem hi)⟩⟩⟩
 have hj0 : j = 0 := by have := (List.getElem?_eq_some_iff.1 hj).1; simp at this; omega
 subst hj0
 simp at hj
 subst hj
 rw [show 0 + i * 1 + 0 = i by omega]
 exact hcell i hi
theorem insertL_mem {l : List Int} {i : Nat} {x : Int} (hw : ∀ y ∈ l, (Lit.int .i64 y).wf = true) (hx : (Lit.int .i64 x).wf = true) : ∀ y ∈ insertL l i x, (Lit.int .i64 y).wf = true := by
 intro y hy
 unfold insertL at hy
 rw [List.mem_append, List.mem_cons] at hy
 rcases hy with h | rfl | h
 ·exact hw y (List.mem_of_mem_take h)
 ·exact hx
 ·exact hw y (List.mem_of_mem_drop h)
theorem insertL_cells {w : World} {b : Nat} {l : List Int} {i : Nat} {x : Int} (hi : i ≤ l.length) (h1 : ∀ j (hj : j < l.length), j < i → w.cell? ⟨b, j, none⟩ = some (.int .i64 l[j])) (h2 : w.cell? ⟨b, i, none⟩ = some (.int .i64 x)) (h3 : ∀ j (hj : j < l.length), i ≤ j → w.cell? ⟨b, j + 1, none⟩ = some (.int .i64 l[j])) :
  ∀ j (hj : j < (insertL l i x).length), w.cell? ⟨b, j, none⟩ = some (.int .i64 (insertL l i x)[j]) := by
 intro j hj
 have hg := insertL_get hi hj
 have hl := insertL_length x hi
 rw [List.getElem?_eq_getElem hj] at hg
 split at hg
 ·rename_i hji
  rw [List.getElem?_eq_getElem (by omega)] at hg
  injection hg with hg
  rw [hg]
  exact h1 j (by omega) hji
 ·split at hg
  ·rename_i _ e
   injection hg with hg
   rw [hg, e]
   exact h2
  ·rename_i a e
   rw [List.getElem?_eq_getElem (by omega)] at hg
   injection hg with hg
   rw [hg]
   have := h3 (j - 1) (by omega) (by omega)
   rwa [show j - 1 + 1 = j by omega] at this
theorem ints_at {w : World} {b : Nat} {l : List Int} (h : ∀ j u, (l.map (Value.int .i64))[j]? = some u → w.cell? ⟨b, j, none⟩ = some u) {j : Nat} (hj : j < l.length) : w.cell? ⟨b, j, none⟩ = some (.int .i64 l[j]) := h j _ (by simp [hj])
theorem one_ints (l : List Int) : ∀ v ∈ l.map (Value.int .i64), v.oneCell' = true := by
 intro v hv
 obtain ⟨x, _, rfl⟩ := List.mem_map.1 hv
 rfl
set_option maxHeartbeats 4000000 in
theorem insertI_calls (w : World) (B vb : Nat) (T : TypeId) (v : Value) (l : List Int) (i : Nat) (x : Int) (h : w.ownsRow B 3 1 v l.length (l.map (Value.int .i64))) (hi : i ≤ l.length) (hl : l.length ≤ 1000) (hw : ∀ y ∈ l, (Lit.int .i64 y).wf = true) (hx : (Lit.int .i64 x).wf = true)
  (hvb : w.heap[vb]? = some (.cells #[.int .i64 x] T (0, 0))) (hne : v.ownBlock ≠ some vb) (hB : B ≤ w.heap.size) :
  Calls Tryz.prog 174 #[v, .int .i64 i, .slice (some ⟨vb, 0, none⟩) 1 1] w fun e w' => ∃ v', e = .returned v' ∧ RdS intS 1 (fun b => B ≤ b) w' v' (insertL l i x) ∧ Below B w w' := by
 have hlen := insertL_length x hi
 have hwm := insertL_mem (i := i) hw hx
 have hvs : ∀ j u, [Value.int .i64 x][j]? = some u → w.cell? ⟨vb, 0 + j, none⟩ = some u := fun j u hj => by
  have hj0 : j = 0 := by have := (List.getElem?_eq_some_iff.1 hj).1; simp at this; omega
  subst hj0
  simp at hj
  subst hj
  exact (cell_of_row _ _ _ _ _ _ hvb).trans rfl
 have hvo : ∀ u ∈ [Value.int .i64 x], u.oneCell' = true := fun u hu => by
  simp at hu
  subst hu
  rfl
 have hlt := h.lt
 have hcells := fun (g : Nat) (e : v.ownBlock = some g) => h.cells (g := g) e
 have hgm := grownCap_le_maxLen w (l.length + 1)
 have hgg := grownCap_ge w (l.length + 1)
 -- at the end, no room
 have grow : ∀ (base : Option Addr) (c : Nat), l.length ≤ c → c < l.length + 1 → i = l.length → (base = none → l.length = 0) → (∀ a, base = some a → ∀ j u, (l.map (Value.int .i64))[j]? = some u → w.cell? (a.add j) = some u) →
   Calls Tryz.prog 174 #[.slice base l.length c, .int .i64 i, .slice (some ⟨vb, 0, none⟩) 1 1] w fun e w' => ∃ v', e = .returned v' ∧ RdS intS 1 (fun b => B ≤ b) w' v' (insertL l i x) ∧ Below B w w' := by
  intro base c hnc hroom hin hnil hcs
  subst hin
  refine (Any2.slices_Insert_int_end_grow Tryz.laysIns base l.length c vb 0 1 1 (l.map (Value.int .i64)) [.int .i64 x] w (by decide) hnc hroom (by omega) (by simp) rfl hnil hcs hvs hvo).mono ?_
  rintro e w' ⟨rfl, rfl⟩
  refine ⟨_, rfl, RdS_ints _ hlen (by rw [hlen]; exact hgg _ _) (hgm _ _ (by simp only [maxLen]; omega)) hB (by simp) ?_ hwm, (drewN_below (Below.refl B w) 1).alloc hB _⟩
  have hrow := World.alloc_heap_new w.drew (.cells ((l.map (Value.int .i64) ++ [Value.int .i64 x]).toArray ++ Builtin.zeroCells (Value.int .i64 0).cells (grownCap w (l.length + 1) c 3 - (l.length + 1))) 3 (0, 0))
  refine insertL_cells (Nat.le_refl _) (fun j hj _ => ?_) ?_ (fun j hj hij => by omega)
  ·refine (cell_of_row _ _ _ _ _ _ hrow).trans ?_
   rw [Array.getElem?_append, if_pos (by simp; omega), List.getElem?_toArray, List.getElem?_append, if_pos (by simpa using hj)]
   simp [hj]
  ·refine (cell_of_row _ _ _ _ _ _ hrow).trans ?_
   rw [Array.getElem?_append, if_pos (by simp), List.getElem?_toArray, List.getElem?_append, if_neg (by simp)]
   simp
 rcases h.2 with ⟨rfl, hn⟩ | ⟨g, cap, cur, rfl, hgb, hgh, hgc, hcm, hcs, htk⟩
 ·have := grow none 0 (by omega) (by omega) (by omega) (fun _ => hn) (fun a e => by cases e)
  rwa [hn] at this
 have hg := (hlt g rfl).2
 have hcg : ∀ j u, (l.map (Value.int .i64))[j]? = some u → w.cell? ⟨g, j, none⟩ = some u := fun j u hj => by
  have := hcells g rfl j u hj
  rwa [Addr.add_lit, Nat.zero_add] at this
 have hcg0 : ∀ j u, (l.map (Value.int .i64))[j]? = some u → w.cell? ⟨g, 0 + j, none⟩ = some u := fun j u hj => by rw [Nat.zero_add]; exact hcg j u hj
 have hspare : ∀ j, j < cap → (w.cell? ⟨g, j, none⟩).isSome = true := fun j hj => by
  rw [cell_of_row _ _ _ _ _ _ hgh, Array.getElem?_eq_getElem (by omega)]
  rfl
 have hfz : ∀ j, w.frozen? ⟨g, j, none⟩ = false := free_of hgh
 by_cases hin : i = l.length
 ·by_cases hroom : l.length + 1 ≤ cap
  ·subst hin
   refine (Any2.slices_Insert_int_end_room Tryz.laysIns g 0 l.length cap vb 0 1 1 [.int .i64 x] w (by decide) hroom (by simp only [maxLen] at hcm; omega) rfl (fun j hj => hspare _ (by omega)) (fun j hj => hfz _) hvs hvo).mono ?_
   rintro e w' ⟨rfl, rfl⟩
   have hB' := below_setCells hgb [.int .i64 x] (0 + l.length) w
   refine ⟨_, rfl, RdS_ints _ hlen (by rw [hlen]; exact hroom) hcm hgb (Nat.lt_of_lt_of_le hg hB'.size) ?_ hwm, hB'⟩
   refine insertL_cells (Nat.le_refl _) (fun j hj _ => ?_) ?_ (fun j hj hij => by omega)
   ·rw [World.cell?_setCells_out _ _ _ _ _ (fun _ _ => Or.inl (by show j < 0 + l.length; omega))]
    exact ints_at hcg hj
   ·have := World.cell?_setCells_in g [.int .i64 x] (0 + l.length) w (fun j hj => hspare _ (by simp at hj; omega)) 0 (by simp)
    simpa using this
  ·exact grow (some ⟨g, 0, none⟩) cap hgc (by omega) hin (fun e => by cases e) (fun a e => by cases e; exact hcells g rfl)
 ·have hilt : i < l.length := by omega
  by_cases hroom : l.length + 1 ≤ cap
  ·have hvg : vb ≠ g := fun e => hne (by simp [Value.ownBlock, e])
   refine (Any2.slices_Insert_int_shift Tryz.laysIns g 0 l.length cap i vb 0 1 1 (l.map (Value.int .i64)) [.int .i64 x] w hilt (by decide) hroom (by simp only [maxLen] at hcm; omega) hvg (by simp) rfl hcg0 (fun j hj => hspare _ (by omega)) (fun j hj => hfz _) hvs (one_ints l) hvo
    T 3 1 cur.size (by simp [World.shape?, hvb]) (by simp [World.shape?, hgh]) (by omega) (free_of hvb _) (free_of hvb _)).mono ?_
   rintro e w' ⟨rfl, rfl⟩
   have hB1 := (drewN_below (Below.refl B w) 1).trans (below_setCells hgb ((l.map (Value.int .i64)).drop i) (0 + (i + 1)) w.drew)
   have hB' := hB1.trans (below_setCells hgb [.int .i64 x] (0 + i) _)
   have hsome1 : ∀ j, j < cap → ((w.drew.setCells g (0 + (i + 1)) ((l.map (Value.int .i64)).drop i)).cell? ⟨g, j, none⟩).isSome = true := fun j hj =>
    isSome_setCells g ((l.map (Value.int .i64)).drop i) (0 + (i + 1)) w.drew (fun k hk => hspare _ (by rw [List.length_drop, List.length_map] at hk; omega)) _ (hspare j hj)
   refine ⟨_, rfl, RdS_ints _ hlen (by rw [hlen]; exact hroom) hcm hgb (Nat.lt_of_lt_of_le hg hB'.size) ?_ hwm, hB'⟩
   refine insertL_cells hi (fun j hj hji => ?_) ?_ (fun j hj hij => ?_)
   ·rw [World.cell?_setCells_out _ _ _ _ _ (fun _ _ => Or.inl (by show j < 0 + i; omega)), World.cell?_setCells_out _ _ _ _ _ (fun _ _ => Or.inl (by show j < 0 + (i + 1); omega))]
    exact ints_at hcg hj
   ·have := World.cell?_setCells_in g [.int .i64 x] (0 + i) _ (fun j hj => hsome1 _ (by simp at hj; omega)) 0 (by simp)
    simpa using this
   ·rw [World.cell?_setCells_out _ _ _ _ _ (fun _ _ => Or.inr (by show 0 + i + 1 ≤ j + 1; omega))]
    have := World.cell?_setCells_in g ((l.map (Value.int .i64)).drop i) (0 + (i + 1)) w.drew (fun k hk => hspare _ (by simp at hk; omega)) (j - i) (by simp; omega)
    rw [show 0 + (i + 1) + (j - i) = j + 1 by omega] at this
    rw [this]
    simp [show i + (j - i) = j by omega]
  ·have hcon := Any2.slices_Insert_int_grow Tryz.laysIns g 0 l.length cap i vb 0 1 1 (l.map (Value.int .i64)) [.int .i64 x] w hilt (by decide) hgc (by omega) (by omega) (by simp) rfl hcg0 hvs (one_ints l) hvo
   rw [show Tryz.laysIns_ren.t 3 = 3 from rfl] at hcon
   refine hcon.mono ?_
   rintro e w' ⟨rfl, rfl⟩
   generalize hZ : Builtin.zeroCells (Value.int .i64 0).cells (grownCap w (l.length + 1) cap 3 - (l.length + 1)) = Z
   have hz : (Builtin.zeroCells (Value.int .i64 0).cells (l.length + 1 - i)).size = l.length + 1 - i := by
    have := size_zeroCells (Value.int .i64 0).cells (l.length + 1 - i)
    simpa [Value.cells] using this
   generalize hY : Builtin.zeroCells (Value.int .i64 0).cells (l.length + 1 - i) = Y at hz ⊢
   obtain ⟨w1, hw1⟩ : ∃ w1, w1 = w.alloc (.cells (((l.map (Value.int .i64)).take i).toArray ++ Y ++ Z) 3) := ⟨_, rfl⟩
   have hrow : w1.heap[w.heap.size]? = some (.cells (((l.map (Value.int .i64)).take i).toArray ++ Y ++ Z) 3 (0, 0)) := by rw [hw1]; exact World.alloc_heap_new w _
   have hB1 : Below B w w1 := by rw [hw1]; exact (Below.refl B w).alloc hB _
   rw [← hw1]
   have hB2 := (hB1.trans (drewN_below (Below.refl B w1) 1)).trans (below_setCells hB [.int .i64 x] i w1.drew)
   have hB' := (hB2.trans (drewN_below (Below.refl B _) 1)).trans (below_setCells hB ((l.map (Value.int .i64)).drop i) (i + 1) _)
   have hsp1 : ∀ j, j < l.length + 1 → (w1.cell? ⟨w.heap.size, j, none⟩).isSome = true := fun j hj => by
    rw [cell_of_row _ _ _ _ _ _ hrow, Array.getElem?_eq_getElem (by simp [hz]; omega)]
    rfl
   have hsp2 : ∀ j, j < l.length + 1 → ((w1.drew.setCells w.heap.size i [.int .i64 x]).cell? ⟨w.heap.size, j, none⟩).isSome = true := fun j hj =>
    isSome_setCells w.heap.size [Value.int .i64 x] i w1.drew (fun k hk => hsp1 _ (by simp at hk; omega)) _ (hsp1 j hj)
   have hlt' : w.heap.size < w1.heap.size := by rw [hw1]; simp
   refine ⟨_, rfl, RdS_ints _ hlen (by rw [hlen]; exact hgg _ _) (hgm _ _ (by simp only [maxLen]; omega)) hB (by have h1 := hB2.size; have h2 := hB'.size; have h3 := hB1.size; have h4 := ((drewN_below (Below.refl B w1) 1).trans (below_setCells hB [.int .i64 x] i w1.drew)).size; have h5 := (below_setCells hB ((l.map (Value.int .i64)).drop i) (i + 1) (w1.drew.setCells w.heap.size i [.int .i64 x]).drew).size; exact Nat.lt_of_lt_of_le hlt' (Nat.le_trans h4 h5)) ?_ hwm, hB'⟩
   refine insertL_cells hi (fun j hj hji => ?_) ?_ (fun j hj hij => ?_)
   ·rw [World.cell?_setCells_out _ _ _ _ _ (fun _ _ => Or.inl (by show j < i + 1; omega))]
    refine (World.cell?_setCells_out _ _ _ w1.drew _ (fun _ _ => Or.inl (by show j < i; omega))).trans ?_
    refine (cell_of_row _ _ _ _ _ _ hrow).trans ?_
    rw [Array.getElem?_append, if_pos (by simp; omega), Array.getElem?_append, if_pos (by simp; omega), List.getElem?_toArray, List.getElem?_take, if_pos hji]
    simp [hj]
   ·rw [World.cell?_setCells_out _ _ _ _ _ (fun _ _ => Or.inl (by show i < i + 1; omega))]
    have := World.cell?_setCells_in w.heap.size [.int .i64 x] i w1.drew (fun j hj => hsp1 _ (by simp at hj; omega)) 0 (by simp)
    simpa using this
   ·have := World.cell?_setCells_in w.heap.size ((l.map (Value.int .i64)).drop i) (i + 1) (w1.drew.setCells w.heap.size i [.int .i64 x]).drew (fun k hk => hsp2 _ (by simp at hk; omega)) (j - i) (by simp; omega)
    rw [show i + 1 + (j - i) = j + 1 by omega] at this
    rw [this]
    simp [show i + (j - i) = j by omega]
end Go.Proofs.YtmbhkkophkccbaaGreat.Work
end
section
namespace Go.Proofs.YtmbhkkophkccbaaGreat.Work
open Go Go.RowKit Go.Proofs.YtmbhkkophkccbaaGreat.Seq WS FS Mem Rd Shapes Word FFam OwnF
set_option linter.unusedVariables false
set_option linter.unusedSimpArgs false

theorem own_base {w : World} {B B' : Nat} {e : TypeId} {size : Nat} {v : Value} {n : Nat} {xs : List Value} (h : w.ownsRow B e size v n xs) (hB : B' ≤ B) : w.ownsRow B' e size v n xs := by
 obtain ⟨h1, h2⟩ := h
 refine ⟨h1, ?_⟩
 rcases h2 with h2 | ⟨g, cap, cur, rfl, hb, r⟩
 ·exact .inl h2
 ·exact .inr ⟨g, cap, cur, rfl, Nat.le_trans hB hb, r⟩
theorem filter_len {l : List Int} (hn : l.Nodup) (x : Int) : (l.filter (· != x)).length = l.length - if x ∈ l then 1 else 0 := by
 have h1 := List.length_eq_countP_add_countP (fun y => y != x) (l := l)
 rw [List.countP_eq_length_filter] at h1
 have h2 : l.countP (fun a => decide ¬(a != x) = true) = l.count x := by
  unfold List.count
  apply List.countP_congr
  intro y _
  simp
 have h3 := (List.nodup_iff_count.1 hn) x
 split
 ·rename_i hm
  have := List.count_pos_iff.2 hm
  omega
 ·rename_i hm
  have := List.count_eq_zero_of_not_mem hm
  omega
section
variable [Avoid] {base wk g c : Nat} {o : Opn} {f : Fo}
end
section
variable {base wk g c : Nat} {o : Opn} {f : Fo}
theorem insert_kids (hm : mayB f = true) {i t : Nat} (hi : i < f.length) (ht : t < f.length) (p : Int) : (at_ ((takeF f i).set i { at_ (takeF f i) (i : Int) with parent := p }) (t : Int)).kids = (at_ f (t : Int)).kids.filter (· != (i : Int)) := by
 rw [FS.set_at (by rw [take_length]; exact hi), take_at (may_is hm) hi, take_at (may_is hm) hi]
 split
 ·rename_i e; rw [e]
 ·rfl
end
section
variable [Avoid] {base wk g c : Nat} {o : Opn} {f : Fo}
end
section
variable {base wk g c : Nat} {o : Opn} {f : Fo}
theorem fits_len (hm : mayB f = true) {i t : Nat} (hoi : o.id = i) (hot : o.to = t) (hi : i < f.length) (ht : t < f.length) (hf : fitsB f o = true) : ∃ a : Nat, o.at_ = a ∧ a ≤ ((at_ f (t : Int)).kids.filter (· != (i : Int))).length := by
 have h := may_is hm
 unfold fitsB at hf
 rw [decide_eq_true_eq, hoi, hot] at hf
 obtain ⟨h1, h2⟩ := hf
 refine ⟨o.at_.toNat, by omega, ?_⟩
 rw [filter_len (kids_nodup (may_family hm) (nodeI ht)) i]
 by_cases hp : (at_ f (i : Int)).parent = (t : Int)
 ·rw [if_pos hp] at h2
  split <;> omega
 ·rw [if_neg hp] at h2
  rw [if_neg (not_kid h hp)]
  omega
end
section
variable [Avoid] {base wk g c : Nat} {o : Opn} {f : Fo}
set_option maxRecDepth 100000 in
set_option maxHeartbeats 20000000 in
theorem insert_do (hm : mayB f = true) (hi : isNode f o.id = true) (hto : isNode f o.to = true) (hfit : fitsB f o = true) (hw1 : (Lit.int .i64 o.id).wf = true) (hw2 : (Lit.int .i64 o.to).wf = true) (hbw : base ≤ wk) : Do 171 base wk g c o f (insertF f o) := by
 intro w h
 have htk := take_do hm hi hbw w h
 obtain ⟨i, hoi, hil⟩ := node_nat hi
 obtain ⟨t, hot, htl⟩ := node_nat hto
 obtain ⟨a, hoa, hal⟩ := fits_len hm hoi hot hil htl hfit
 have hf2 : insertF f o = ((takeF f i).set i { at_ (takeF f i) (i : Int) with parent := (t : Int) }).set t { at_ ((takeF f i).set i { at_ (takeF f i) (i : Int) with parent := (t : Int) }) (t : Int) with kids := insertL ((at_ f (t : Int)).kids.filter (· != (i : Int))) a i } := by
  rw [← insert_kids hm hil htl (t : Int)]
  unfold insertF
  simp only [hoi, hot, hoa, Int.toNat_natCast]
 have hkl := may_kids hm f[t] (List.getElem_mem _)
 rw [← at_nat htl] at hkl
 have hkl2 := List.length_filter_le (· != (i : Int)) (at_ f (t : Int)).kids
 have hk2 := insert_kids hm hil htl (t : Int)
 have hlen1 := take_length f (i : Int)
 rw [hoi] at htk hw1
 rw [hot] at hw2
 rw [hf2]
 have hlen2 : ((takeF f i).set i { at_ (takeF f i) (i : Int) with parent := (t : Int) }).length = f.length := by rw [List.length_set, hlen1]
 have Hoi := Lib.hid hoi; have Hot := Lib.hid hot; have Hoa := Lib.hid hoa; have Htk := Lib.hid htk; have Hk2 := Lib.hid hk2; have Hw1 := Lib.hid hw1; have Hlen1 := Lib.hid hlen1; have Hlen2 := Lib.hid hlen2
 have hf0 : 0 < f.length := by omega
 clear hoi hot hoa htk hk2 hf2 hw1 hi hto hfit hm h hlen1 hlen2
 generalize hl2 : (at_ f (t : Int)).kids.filter (· != (i : Int)) = l2 at *
 clear hl2
 generalize takeF f (i : Int) = f1 at *
 go_enter Tryz.func171, Tryz.ntmps171
 go_upto_region 1 with (go_at_call 172; ((with_reducible refine (Htk.out).mono ?_); rintro e w1 ⟨rfl, g1, c1, hW1, hB1⟩; have HW1 := Lib.hid hW1; have HB1 := Lib.hid hB1; clear hW1 hB1))
 have hi1 : i < f1.length := by rw [Hlen1.out]; exact hil
 have hnode1 : isNode f1 o.id = true := by rw [Hoi.out]; exact (node_iff _ _).2 ⟨by omega, by omega⟩
 have hn := node_grow w1 HW1.out hnode1
 rw [Hoi.out, Int.toNat_natCast] at hn
 have hcc := fun w' (hw' : Below w1.heap.size w1 w') => cell_grow hw' HW1.out.cells.2.2.2.1
 rw [Hot.out] at hcc
 have hput := fun w' (hw' : Below w1.heap.size w1 w') => (HW1.out.below hw').put (j := 4) (u := .int .i64 (t : Int)) (n := { f1[i] with parent := (t : Int) }) hi1 (by decide) (fun cs hcs => by
  obtain ⟨va, vk, rfl, r1, r2, r3, r4, r5, r6⟩ := hcs
  exact ⟨va, vk, rfl, r1, r2, r3, r4, r5, hw2⟩)
 have hfree := fun w' (hw' : Below w1.heap.size w1 w') => ((HW1.out.below hw').free (by omega)).1 (i * 6 + 4)
 obtain ⟨_, _, _, _, _, _, k4, _, _, _⟩ := HW1.out.node (i := (i : Int)) ((node_iff _ _).2 ⟨by omega, by omega⟩)
 rw [Int.toNat_natCast] at k4
 have hk4 := fun w' (hw' : Below w1.heap.size w1 w') => cell_grow hw' k4
 have hbs1 := HW1.out.base_size (by omega)
 have hne1 := HW1.out.ne
 have c3 := hcc w1 (Below.refl _ _)
 have kf := hfree w1 (Below.refl _ _)
 have Hn := Lib.hid hn; have Hput := Lib.hid hput; have Hcc := Lib.hid hcc; have Hfree := Lib.hid hfree; have Hk4 := Lib.hid hk4
 clear hn hput hcc hfree hk4 Htk hnode1
 go_region_held3 (fun w' => w'.cell? ⟨wk, 3, none⟩ = some (.int .i64 (t : Int)))
  (first | exact c3 | exact d3 | (exact (OwnF.cell_same (Below.heap_setCell _ _ _ _ (fun e => hne1 e.symm)) _).trans (by assumption)) | go_keep)
  (first | (go_at_call 173; (first | (with_reducible refine (Hn.out _ (.inl rfl)).mono ?_) | (with_reducible refine (Hn.out _ (.inr rfl)).mono ?_)); rintro e w5 ⟨rfl, hb5⟩; have d3 := Hcc.out _ hb5; have d4 := Hk4.out _ hb5; have df := Hfree.out _ hb5; have Hb5 := Lib.hid hb5; clear hb5))
 go_upto_region 2 with (fail)
 obtain ⟨w2, hw2'⟩ : ∃ w2, w5.setCell ⟨g1, i * 6 + 4, none⟩ (.int .i64 (t : Int)) = w2 := ⟨_, rfl⟩
 have hp2 := Hput.out _ Hb5.out
 rw [hw2', ← at_nat hi1] at hp2
 rw [hw2']
 clear hw2' c3 kf k4 d3 d4 df Hn Hput Hcc Hfree Hk4
 obtain ⟨hW2, hB2⟩ := hp2
 generalize hf2e : f1.set i { at_ f1 (i : Int) with parent := (t : Int) } = f2 at *
 clear hf2e
 have ht2 : t < f2.length := by rw [Hlen2.out]; exact htl
 obtain ⟨_, vk, _, _, _, _, _, k5, _, rk⟩ := hW2.node (i := (t : Int)) ((node_iff _ _).2 ⟨by omega, by omega⟩)
 rw [Int.toNat_natCast] at k5
 rw [Hk2.out] at rk
 obtain ⟨Ak, ck, rfl, hck, hcm⟩ := rk.form
 have hwf := kids_wf rk
 have hnw := hW2.ne
 have hce : ∀ w', Below w2.heap.size w2 w' → w'.cell? ⟨wk, 0, none⟩ = some (.slice (some ⟨g1, 0, none⟩) f2.length c1) ∧ w'.cell? ⟨wk, 2, none⟩ = some (.int .i64 (i : Int)) ∧ w'.cell? ⟨wk, 3, none⟩ = some (.int .i64 (t : Int)) ∧ w'.cell? ⟨wk, 4, none⟩ = some (.int .i64 (a : Int)) ∧ w'.cell? ⟨g1, t * 6 + 5, none⟩ = some (.slice Ak l2.length ck) ∧ w'.frozen? ⟨g1, t * 6 + 5, none⟩ = false := fun w' hb => by
  have hc := (hW2.below hb).cells
  rw [Hoi.out, Hot.out, Hoa.out] at hc
  exact ⟨hc.1, hc.2.2.1, hc.2.2.2.1, hc.2.2.2.2.1, cell_grow hb k5, ((hW2.below hb).free (by omega)).1 _⟩
 have hcl : ∀ W, Below w2.heap.size w2 W → Calls Tryz.prog 134 #[.slice Ak l2.length ck] W fun e w' => ∃ v', e = .returned v' ∧ w'.ownsRow W.heap.size 3 1 v' l2.length (l2.map (Value.int .i64)) ∧ Below W.heap.size W w' := fun W hW =>
  cloneI_calls W _ _ ((rk.keep (fun b _ hl => hW.block b hl) hW.size (fun b x _ => x)).rd) (by omega)
 have hin : ∀ W v' vb, Below w2.heap.size w2 W → W.ownsRow w2.heap.size 3 1 v' l2.length (l2.map (Value.int .i64)) → W.heap[vb]? = some (.cells #[.int .i64 (i : Int)] 3 (0, 0)) → v'.ownBlock ≠ some vb →
   Calls Tryz.prog 174 #[v', .int .i64 (a : Int), .slice (some ⟨vb, 0, none⟩) 1 1] W fun e w' => ∃ v'', e = .returned v'' ∧ RdS intS 1 (fun b => w2.heap.size ≤ b) w' v'' (insertL l2 a i) ∧ Below w2.heap.size w2 w' := fun W v' vb hW ho hvb hne =>
  (insertI_calls W w2.heap.size vb 3 v' l2 a i ho hal (by omega) hwf Hw1.out hvb hne hW.size).mono (fun e w' ⟨v'', h1, h2, h3⟩ => ⟨v'', h1, h2, hW.trans h3⟩)
 have fin : ∀ (w7 : World) (v7 : Value), RdS intS 1 (fun b => w2.heap.size ≤ b) w7 v7 (insertL l2 a i) → Below w2.heap.size w2 w7 →
   DoPost base wk o (f2.set t { at_ f2 (t : Int) with kids := insertL l2 a i }) w (.returned (.tuple #[])) (w7.setCell ⟨g1, t * 6 + 5, none⟩ v7) := fun w7 v7 hr hb => by
  obtain ⟨h1, h2⟩ := kids_put hW2 ht2 v7 _ hr hb
  exact ⟨rfl, g1, c1, h1, (((HB1.out.trans (Hb5.out.mono hbs1)).trans hB2).trans (hb.mono (hW2.base_size (by omega)))).trans h2⟩
 obtain ⟨e1, e2, e3, e4, _, _⟩ := hce w2 (Below.refl _ _)
 have ef := (hce w2.drew (Below.refl _ _).drew).2.2.2.2.2
 have ek := (hce w2.drew (Below.refl _ _).drew).2.2.2.2.1
 have hlc := hW2.big
 have htc : (t : Int) < (f2.length : Int) := by omega
 have Hce := Lib.hid hce; have Hcl := Lib.hid hcl; have Hin := Lib.hid hin; have Fin := Lib.hid fin
 clear hce hcl hin fin rk k5 hwf hW2 hB2 HW1 Hk2 hal hkl hkl2
 refine wp_region_held_drew (S := (fun w' => w'.cell? ⟨wk, 0, none⟩ = some (.slice (some ⟨g1, 0, none⟩) f2.length c1) ∧ w'.cell? ⟨wk, 2, none⟩ = some (.int .i64 (i : Int)) ∧ w'.cell? ⟨wk, 3, none⟩ = some (.int .i64 (t : Int)) ∧ w'.cell? ⟨wk, 4, none⟩ = some (.int .i64 (a : Int)))) (by kernel_rfl) ⟨e1, e2, e3, e4⟩ (fun hHeld => ?_)
 refine' wpAnyH_take (i := 0) (v := ?v1) rfl (by kernel_rfl) (by kernel_rfl) (by kernel_rfl) (fun _ _ _ h => h) (Or.inl ⟨by rfl, ?hy1⟩) (by assumption) ?rest1
 case hy1 => (intro w hSw; (try dsimp only at hSw); go_simp; (try with_reducible rfl))
 (try simp only [Act.put, List.setIfInBounds_toArray, List.set_cons_zero, List.set_cons_succ])
 refine' wpAnyH_take (i := 1) (v := ?v2) rfl (by kernel_rfl) (by kernel_rfl) (by kernel_rfl) (fun _ _ _ h => h) (Or.inl ⟨by rfl, ?hy2⟩) (by assumption) ?rest2
 case hy2 => (intro w hSw; (try dsimp only at hSw); go_simp; (try with_reducible rfl))
 (try simp only [Act.put, List.setIfInBounds_toArray, List.set_cons_zero, List.set_cons_succ])
 refine' wpAnyH_take (i := 2) (v := ?v3) rfl (by kernel_rfl) (by kernel_rfl) (by kernel_rfl) (fun _ _ _ h => h) (Or.inl ⟨by rfl, ?hy3⟩) (by assumption) ?rest3
 case hy3 => (intro w hSw; (try dsimp only at hSw); go_simp; (try with_reducible rfl))
 (try simp only [Act.put, List.setIfInBounds_toArray, List.set_cons_zero, List.set_cons_succ])
 refine' wpAnyH_take (i := 3) (v := ?v4) rfl (by kernel_rfl) (by kernel_rfl) (by kernel_rfl) (fun _ _ _ h => h) (Or.inl ⟨by rfl, ?hy4⟩) (by assumption) ?rest4
 case hy4 => (intro w hSw; (try dsimp only at hSw); go_simp; (try with_reducible rfl))
 (try simp only [Act.put, List.setIfInBounds_toArray, List.set_cons_zero, List.set_cons_succ])
 refine' wpAnyH_take (i := 4) (v := ?v5) rfl (by kernel_rfl) (by kernel_rfl) (by kernel_rfl) (fun _ _ _ h => h) (Or.inl ⟨by rfl, ?hy5⟩) (by assumption) ?rest5
 case hy5 => (intro w hSw; (try dsimp only at hSw); go_simp; (try with_reducible rfl))
 (try simp only [Act.put, List.setIfInBounds_toArray, List.set_cons_zero, List.set_cons_succ])
 refine' wpAnyH_take (i := 5) (v := ?v6) rfl (by kernel_rfl) (by kernel_rfl) (by kernel_rfl) (fun _ _ _ h => h) (Or.inl ⟨by rfl, ?hy6⟩) (by assumption) ?rest6
 case hy6 => (intro w hSw; (try dsimp only at hSw); go_simp; (try with_reducible rfl))
 (try simp only [Act.put, List.setIfInBounds_toArray, List.set_cons_zero, List.set_cons_succ])
 refine' wpAnyH_take (i := 6) (v := ?v7) rfl (by kernel_rfl) (by kernel_rfl) (by kernel_rfl) (fun _ _ _ h => h) (Or.inl ⟨by rfl, ?hy7⟩) (by assumption) ?rest7
 case hy7 => (intro w hSw; (try dsimp only at hSw); go_simp; (try with_reducible rfl))
 (try simp only [Act.put, List.setIfInBounds_toArray, List.set_cons_zero, List.set_cons_succ])
 refine' wpAnyH_take (i := 7) (v := ?v8) rfl (by kernel_rfl) (by kernel_rfl) (by kernel_rfl) (fun _ _ _ h => h) (Or.inl ⟨by rfl, ?hy8⟩) (by assumption) ?rest8
 case hy8 => (intro w hSw; (try dsimp only at hSw); go_simp; (try with_reducible rfl))
 (try simp only [Act.put, List.setIfInBounds_toArray, List.set_cons_zero, List.set_cons_succ])
 refine' wpAnyH_take (i := 8) (v := ?v9) rfl (by kernel_rfl) (by kernel_rfl) (by kernel_rfl) (fun _ _ _ h => h) (Or.inl ⟨by rfl, ?hy9⟩) (by assumption) ?rest9
 case hy9 => (intro w hSw; (try dsimp only at hSw); go_simp; (try with_reducible rfl))
 (try simp only [Act.put, List.setIfInBounds_toArray, List.set_cons_zero, List.set_cons_succ])
 refine' wpAnyH_take (i := 9) (v := ?v10) rfl (by kernel_rfl) (by kernel_rfl) (by kernel_rfl) (fun _ _ _ h => h) (Or.inl ⟨by rfl, ?hy10⟩) (by assumption) ?rest10
 case hy10 => (intro w hSw; (try dsimp only at hSw); go_simp; (try with_reducible rfl))
 (try simp only [Act.put, List.setIfInBounds_toArray, List.set_cons_zero, List.set_cons_succ])
 refine' wpAnyH_take (i := 10) (v := ?v11) rfl (by kernel_rfl) (by kernel_rfl) (by kernel_rfl) (fun _ _ _ h => h) (Or.inl ⟨by rfl, ?hy11⟩) (by assumption) ?rest11
 case hy11 => (intro w hSw; (try dsimp only at hSw); go_simp; (try with_reducible rfl))
 (try simp only [Act.put, List.setIfInBounds_toArray, List.set_cons_zero, List.set_cons_succ])
 refine' wpAnyH_take (i := 11) (v := ?v12) rfl (by kernel_rfl) (by kernel_rfl) (by kernel_rfl) (fun _ _ _ h => h) (Or.inl ⟨by rfl, ?hy12⟩) (by assumption) ?rest12
 case hy12 => (intro w hSw; (try dsimp only at hSw); go_simp; (try with_reducible rfl))
 (try simp only [Act.put, List.setIfInBounds_toArray, List.set_cons_zero, List.set_cons_succ])
 refine' wpAnyH_take (i := 12) (v := ?v13) rfl (by kernel_rfl) (by kernel_rfl) (by kernel_rfl) (fun _ _ _ h => h) (Or.inl ⟨by rfl, ?hy13⟩) (by assumption) ?rest13
 case hy13 => (intro w hSw; (try dsimp only at hSw); go_simp; (try with_reducible rfl))
 (try simp only [Act.put, List.setIfInBounds_toArray, List.set_cons_zero, List.set_cons_succ])
 refine' wpAnyH_take (i := 13) (v := ?v14) rfl (by kernel_rfl) (by kernel_rfl) (by kernel_rfl) (fun _ _ _ h => h) (Or.inl ⟨by rfl, ?hy14⟩) (by assumption) ?rest14
 case hy14 => (intro w hSw; (try dsimp only at hSw); go_simp; (try with_reducible rfl))
 (try simp only [Act.put, List.setIfInBounds_toArray, List.set_cons_zero, List.set_cons_succ])
 refine' wpAnyH_take (i := 14) (v := ?v15) rfl (by kernel_rfl) (by kernel_rfl) (by kernel_rfl) (fun _ _ _ h => h) (Or.inl ⟨by rfl, ?hy15⟩) (by assumption) ?rest15
 case hy15 => (intro w hSw; (try dsimp only at hSw); go_simp; (try with_reducible rfl))
 (try simp only [Act.put, List.setIfInBounds_toArray, List.set_cons_zero, List.set_cons_succ])
 refine' wpAnyH_take (i := 15) (v := ?v16) rfl (by kernel_rfl) (by kernel_rfl) (by kernel_rfl) (fun _ _ _ h => h) (Or.inl ⟨by rfl, ?hy16⟩) (by assumption) ?rest16
 case hy16 => (intro w hSw; (try dsimp only at hSw); go_simp; (try with_reducible rfl))
 (try simp only [Act.put, List.setIfInBounds_toArray, List.set_cons_zero, List.set_cons_succ])
 refine' wpAnyH_take (i := 16) (v := ?v17) rfl (by kernel_rfl) (by kernel_rfl) (by kernel_rfl) (fun _ _ _ h => h) (Or.inl ⟨by rfl, ?hy17⟩) (by assumption) ?rest17
 case hy17 => (intro w hSw; (try dsimp only at hSw); go_simp; (try with_reducible rfl))
 (try simp only [Act.put, List.setIfInBounds_toArray, List.set_cons_zero, List.set_cons_succ])
 refine' wpAnyH_take (i := 17) (v := ?v18) rfl (by kernel_rfl) (by kernel_rfl) (by kernel_rfl) (fun _ _ _ h => h) (Or.inl ⟨by rfl, ?hy18⟩) (by assumption) ?rest18
 case hy18 => (intro w hSw; (try dsimp only at hSw); go_simp; (try with_reducible rfl))
 (try simp only [Act.put, List.setIfInBounds_toArray, List.set_cons_zero, List.set_cons_succ])
 refine' wpAnyH_take (i := 18) (v := ?v19) rfl (by kernel_rfl) (by kernel_rfl) (by kernel_rfl) (fun _ _ _ h => h) (Or.inl ⟨by rfl, ?hy19⟩) (by assumption) ?rest19
 case hy19 => (intro w hSw; (try dsimp only at hSw); go_simp; (try with_reducible rfl))
 (try simp only [Act.put, List.setIfInBounds_toArray, List.set_cons_zero, List.set_cons_succ])
 refine' wpAnyH_take (i := 19) (v := ?v20) rfl (by kernel_rfl) (by kernel_rfl) (by kernel_rfl) (fun _ _ _ h => h) (Or.inl ⟨by rfl, ?hy20⟩) (by assumption) ?rest20
 case hy20 => (intro w hSw; (try dsimp only at hSw); go_simp; (try with_reducible rfl))
 (try simp only [Act.put, List.setIfInBounds_toArray, List.set_cons_zero, List.set_cons_succ])
 refine' wpAnyH_take (i := 22) (v := ?v21) rfl (by kernel_rfl) (by kernel_rfl) (by kernel_rfl) (fun _ _ _ h => h) (Or.inl ⟨by rfl, ?hy21⟩) (by assumption) ?rest21
 case hy21 => (intro w hSw; (try dsimp only at hSw); go_simp; (try with_reducible rfl))
 (try simp only [Act.put, List.setIfInBounds_toArray, List.set_cons_zero, List.set_cons_succ])
 refine' wpAnyH_take (i := 23) (v := ?v22) rfl (by kernel_rfl) (by kernel_rfl) (by kernel_rfl) (fun _ _ _ h => h) (Or.inl ⟨by rfl, ?hy22⟩) (by assumption) ?rest22
 case hy22 => (intro w hSw; (try dsimp only at hSw); go_simp; (try with_reducible rfl))
 (try simp only [Act.put, List.setIfInBounds_toArray, List.set_cons_zero, List.set_cons_succ])
 refine' wpAnyH_take (i := 24) (v := ?v23) rfl (by kernel_rfl) (by kernel_rfl) (by kernel_rfl) (fun _ _ _ h => h) (Or.inl ⟨by rfl, ?hy23⟩) (by assumption) ?rest23
 case hy23 => (intro w hSw; (try dsimp only at hSw); go_simp; (try with_reducible rfl))
 (try simp only [Act.put, List.setIfInBounds_toArray, List.set_cons_zero, List.set_cons_succ])
 refine' wpAnyH_take (i := 25) (v := ?v24) rfl (by kernel_rfl) (by kernel_rfl) (by kernel_rfl) (fun _ _ _ h => h) (Or.inl ⟨by rfl, ?hy24⟩) (by assumption) ?rest24
 case hy24 => (intro w hSw; (try dsimp only at hSw); go_simp; (try with_reducible rfl))
 (try simp only [Act.put, List.setIfInBounds_toArray, List.set_cons_zero, List.set_cons_succ])
 refine' wpAnyH_take (i := 26) (v := ?v25) rfl (by kernel_rfl) (by kernel_rfl) (by kernel_rfl) (fun _ _ _ h => h) (Or.inl ⟨by rfl, ?hy25⟩) (by assumption) ?rest25
 case hy25 => (intro w hSw; (try dsimp only at hSw); go_simp; (try with_reducible rfl))
 (try simp only [Act.put, List.setIfInBounds_toArray, List.set_cons_zero, List.set_cons_succ])
 refine' wpAnyH_take (i := 27) (v := ?v26) rfl (by kernel_rfl) (by kernel_rfl) (by kernel_rfl) (fun _ _ _ h => h) (Or.inl ⟨by rfl, ?hy26⟩) (by assumption) ?rest26
 case hy26 => (intro w hSw; (try dsimp only at hSw); go_simp; (try with_reducible rfl))
 (try simp only [Act.put, List.setIfInBounds_toArray, List.set_cons_zero, List.set_cons_succ])
 refine' wpAnyH_take (i := 28) (v := ?v27) rfl (by kernel_rfl) (by kernel_rfl) (by kernel_rfl) (fun _ _ _ h => h) (Or.inl ⟨by rfl, ?hy27⟩) (by assumption) ?rest27
 case hy27 => (intro w hSw; (try dsimp only at hSw); go_simp; (try with_reducible rfl))
 (try simp only [Act.put, List.setIfInBounds_toArray, List.set_cons_zero, List.set_cons_succ])
 refine' wpAnyH_take (i := 29) (v := ?v28) rfl (by kernel_rfl) (by kernel_rfl) (by kernel_rfl) (fun _ _ _ h => h) (Or.inl ⟨by rfl, ?hy28⟩) (by assumption) ?rest28
 case hy28 => (intro w hSw; (try dsimp only at hSw); go_simp; (try with_reducible rfl))
 (try simp only [Act.put, List.setIfInBounds_toArray, List.set_cons_zero, List.set_cons_succ])
 refine' wpAnyH_take (i := 30) (v := ?v29) rfl (by kernel_rfl) (by kernel_rfl) (by kernel_rfl) (fun _ _ _ h => h) (Or.inl ⟨by rfl, ?hy29⟩) (by assumption) ?rest29
 case hy29 => (intro w hSw; (try dsimp only at hSw); go_simp; (try with_reducible rfl))
 (try simp only [Act.put, List.setIfInBounds_toArray, List.set_cons_zero, List.set_cons_succ])
 refine' wpAnyH_take (i := 31) (v := ?v30) rfl (by kernel_rfl) (by kernel_rfl) (by kernel_rfl) (fun _ _ _ h => h) (Or.inl ⟨by rfl, ?hy30⟩) (by assumption) ?rest30
 case hy30 => (intro w hSw; (try dsimp only at hSw); go_simp; (try with_reducible rfl))
 (try simp only [Act.put, List.setIfInBounds_toArray, List.set_cons_zero, List.set_cons_succ])
 refine wpAnyH_ready (rs := [20, 32]) (by kernel_rfl) (by simp) ?_
 refine (AllReadyH.cons rfl (fun K hK => ?_) (AllReadyH.cons rfl (fun K hK => ?_) AllReadyH.nil))
 ·go_simp
  refine hK.out _ _ hHeld (fun hHeld => ?_)
  clear hK K
  (try simp only [Act.put, List.setIfInBounds_toArray, List.set_cons_zero, List.set_cons_succ])
  refine wpAnyH_ready (rs := [21, 32]) (by kernel_rfl) (by simp) ?_
  refine (AllReadyH.cons rfl (fun K hK => ?_) (AllReadyH.cons rfl (fun K hK => ?_) AllReadyH.nil))
  ·go_simp
   go_at_call 134
   refine (Hcl.out _ (Below.refl _ _).drew).mono ?_
   rintro e w6 ⟨v6, rfl, ho6, hb6⟩
   have hb6' := (Below.refl w2.heap.size w2).drew.trans hb6
   obtain ⟨d1, d2, d3, d4, d5, d6⟩ := Hce.out _ hb6'
   have Ho6 := Lib.hid ho6; have Hb6 := Lib.hid hb6'
   clear ho6 hb6 hb6'
   go_simp
   refine hK.out _ _ ⟨d1, d2, d3, d4⟩ (fun hHeld => ?_)
   clear hK K
   (try simp only [Act.put, List.setIfInBounds_toArray, List.set_cons_zero, List.set_cons_succ])
   refine wpAnyH_ready (rs := [32]) (by kernel_rfl) (by simp) ?_
   refine (AllReadyH.cons rfl (fun K hK => ?_) AllReadyH.nil)
   go_simp
   have hbm := (Hb6.out.trans (Below.refl _ _)).alloc (Hb6.out.size) (.cells #[.int .i64 (i : Int)] 3)
   have hvb := World.alloc_heap_new w6 (.cells #[.int .i64 (i : Int)] 3)
   have hom := Ho6.out.alloc (.cells #[.int .i64 (i : Int)] 3)
   have hnb : v6.ownBlock ≠ some w6.heap.size := fun e => by have := (Ho6.out.lt _ e).2; omega
   obtain ⟨wm, hwm⟩ : ∃ wm, w6.alloc (.cells #[.int .i64 (i : Int)] 3) = wm := ⟨_, rfl⟩
   obtain ⟨vb, hvbe⟩ : ∃ vb, w6.heap.size = vb := ⟨_, rfl⟩
   rw [hwm] at hbm hvb hom
   rw [hvbe] at hvb hnb
   (try rw [hwm])
   (try rw [hvbe])
   clear hwm hvbe
   obtain ⟨d1, d2, d3, d4, d5, d6⟩ := Hce.out _ hbm
   have Hbm := Lib.hid hbm; have Hvb := Lib.hid hvb; have Hom := Lib.hid hom
   clear hbm hvb hom
   refine hK.out _ _ ⟨d1, d2, d3, d4⟩ (fun hHeld => ?_)
   clear hK K
   (try simp only [Act.put, List.setIfInBounds_toArray, List.set_cons_zero, List.set_cons_succ])
   refine wpAnyH_ready (rs := [33]) (by kernel_rfl) (by simp) ?_
   refine (AllReadyH.cons rfl (fun K hK => ?_) AllReadyH.nil)
   go_simp
   go_at_call 174
   refine (Hin.out wm v6 vb Hbm.out Hom.out Hvb.out hnb).mono ?_
   rintro e w7 ⟨v7, rfl, hr7, hb7⟩
   obtain ⟨A7, c7, rfl, _, _⟩ := hr7.form
   obtain ⟨s1, s2, s3, s4, s5, s6⟩ := Hce.out _ hb7
   have Hr7 := Lib.hid hr7; have Hb7 := Lib.hid hb7
   clear hr7 hb7
   go_simp
   refine hK.out _ _ ⟨s1, s2, s3, s4⟩ (fun hHeld => ?_)
   clear hK K
   (try simp only [Act.put, List.setIfInBounds_toArray, List.set_cons_zero, List.set_cons_succ])
   refine' wpAnyH_take (i := 34) (v := ?v31) rfl (by kernel_rfl) (by kernel_rfl) (by kernel_rfl) (fun _ _ _ h => h) (Or.inl ⟨by rfl, ?hy31⟩) (by assumption) ?rest31
   case hy31 => (intro w hSw; (try dsimp only at hSw); go_simp; (try with_reducible rfl))
   (try simp only [Act.put, List.setIfInBounds_toArray, List.set_cons_zero, List.set_cons_succ])
   refine' wpAnyH_take (i := 35) (v := ?v32) rfl (by kernel_rfl) (by kernel_rfl) (by kernel_rfl) (fun _ _ _ h => h) (Or.inl ⟨by rfl, ?hy32⟩) (by assumption) ?rest32
   case hy32 => (intro w hSw; (try dsimp only at hSw); go_simp; (try with_reducible rfl))
   (try simp only [Act.put, List.setIfInBounds_toArray, List.set_cons_zero, List.set_cons_succ])
   refine wpAnyH_ready (rs := [36]) (by kernel_rfl) (by simp) ?_
   refine (AllReadyH.cons rfl (fun K hK => ?_) AllReadyH.nil)
   go_simp
   refine hK.out _ _ ⟨(OwnF.cell_same (Below.heap_setCell _ _ _ _ (fun e => hnw e.symm)) _).trans s1, (OwnF.cell_same (Below.heap_setCell _ _ _ _ (fun e => hnw e.symm)) _).trans s2, (OwnF.cell_same (Below.heap_setCell _ _ _ _ (fun e => hnw e.symm)) _).trans s3, (OwnF.cell_same (Below.heap_setCell _ _ _ _ (fun e => hnw e.symm)) _).trans s4⟩ (fun hHeld => ?_)
   clear hK K
   (try simp only [Act.put, List.setIfInBounds_toArray, List.set_cons_zero, List.set_cons_succ])
   refine wpAnyH_done (by kernel_rfl) ?_ _
   first | go_end0 | refine bodyPost_ret (results_none rfl _ _ _) rfl ?_
   exact Fin.out _ _ Hr7.out Hb7.out
  ·go_simp
   have hbm := ((Below.refl w2.heap.size w2).alloc (Nat.le_refl _) (.cells #[.int .i64 (i : Int)] 3)).drew
   have hvb : (w2.alloc (.cells #[.int .i64 (i : Int)] 3)).drew.heap[w2.heap.size]? = _ := World.alloc_heap_new w2 (.cells #[.int .i64 (i : Int)] 3)
   have hsm : w2.heap.size < (w2.alloc (.cells #[.int .i64 (i : Int)] 3)).drew.heap.size := by simp
   obtain ⟨wm, hwm⟩ : ∃ wm, (w2.alloc (.cells #[.int .i64 (i : Int)] 3)).drew = wm := ⟨_, rfl⟩
   obtain ⟨vb, hvbe⟩ : ∃ vb, w2.heap.size = vb := ⟨_, rfl⟩
   rw [hwm] at hbm hvb hsm
   (try rw [hwm])
   rw [hvbe] at hvb hsm
   (try rw [hvbe])
   have Hvbe := Lib.hid hvbe
   clear hwm hvbe
   obtain ⟨d1, d2, d3, d4, d5, d6⟩ := Hce.out _ hbm
   have Hbm := Lib.hid hbm; have Hvb := Lib.hid hvb
   clear hbm hvb
   refine hK.out _ _ ⟨d1, d2, d3, d4⟩ (fun hHeld => ?_)
   clear hK K
   (try simp only [Act.put, List.setIfInBounds_toArray, List.set_cons_zero, List.set_cons_succ])
   refine wpAnyH_ready (rs := [21]) (by kernel_rfl) (by simp) ?_
   refine (AllReadyH.cons rfl (fun K hK => ?_) AllReadyH.nil)
   go_simp
   go_at_call 134
   refine (Hcl.out wm Hbm.out).mono ?_
   rintro e w6 ⟨v6, rfl, ho6, hb6⟩
   have hbm6 := Hbm.out.trans (hb6.mono Hbm.out.size)
   obtain ⟨d1, d2, d3, d4, d5, d6⟩ := Hce.out _ hbm6
   have hvb6 := (hb6.block vb (lt_heap Hvb.out)).trans Hvb.out
   have hnb : v6.ownBlock ≠ some vb := fun e => by have := (ho6.lt _ e).1; have := Hvbe.out; omega
   have hom := own_base ho6 Hbm.out.size
   clear Hvb Hbm
   have Hbm := Lib.hid hbm6; have Hvb := Lib.hid hvb6; have Hom := Lib.hid hom
   obtain ⟨wm', hwm'⟩ : ∃ wm', w6 = wm' := ⟨_, rfl⟩
   subst hwm'
   clear ho6 hb6 hbm6 hvb6 hom
   go_simp
   refine hK.out _ _ ⟨d1, d2, d3, d4⟩ (fun hHeld => ?_)
   clear hK K
   (try simp only [Act.put, List.setIfInBounds_toArray, List.set_cons_zero, List.set_cons_succ])
   refine wpAnyH_ready (rs := [33]) (by kernel_rfl) (by simp) ?_
   refine (AllReadyH.cons rfl (fun K hK => ?_) AllReadyH.nil)
   go_simp
   go_at_call 174
   refine (Hin.out w6 v6 vb Hbm.out Hom.out Hvb.out hnb).mono ?_
   rintro e w7 ⟨v7, rfl, hr7, hb7⟩
   obtain ⟨A7, c7, rfl, _, _⟩ := hr7.form
   obtain ⟨s1, s2, s3, s4, s5, s6⟩ := Hce.out _ hb7
   have Hr7 := Lib.hid hr7; have Hb7 := Lib.hid hb7
   clear hr7 hb7
   go_simp
   refine hK.out _ _ ⟨s1, s2, s3, s4⟩ (fun hHeld => ?_)
   clear hK K
   (try simp only [Act.put, List.setIfInBounds_toArray, List.set_cons_zero, List.set_cons_succ])
   refine' wpAnyH_take (i := 34) (v := ?v33) rfl (by kernel_rfl) (by kernel_rfl) (by kernel_rfl) (fun _ _ _ h => h) (Or.inl ⟨by rfl, ?hy33⟩) (by assumption) ?rest33
   case hy33 => (intro w hSw; (try dsimp only at hSw); go_simp; (try with_reducible rfl))
   (try simp only [Act.put, List.setIfInBounds_toArray, List.set_cons_zero, List.set_cons_succ])
   refine' wpAnyH_take (i := 35) (v := ?v34) rfl (by kernel_rfl) (by kernel_rfl) (by kernel_rfl) (fun _ _ _ h => h) (Or.inl ⟨by rfl, ?hy34⟩) (by assumption) ?rest34
   case hy34 => (intro w hSw; (try dsimp only at hSw); go_simp; (try with_reducible rfl))
   (try simp only [Act.put, List.setIfInBounds_toArray, List.set_cons_zero, List.set_cons_succ])
   refine wpAnyH_ready (rs := [36]) (by kernel_rfl) (by simp) ?_
   refine (AllReadyH.cons rfl (fun K hK => ?_) AllReadyH.nil)
   go_simp
   refine hK.out _ _ ⟨(OwnF.cell_same (Below.heap_setCell _ _ _ _ (fun e => hnw e.symm)) _).trans s1, (OwnF.cell_same (Below.heap_setCell _ _ _ _ (fun e => hnw e.symm)) _).trans s2, (OwnF.cell_same (Below.heap_setCell _ _ _ _ (fun e => hnw e.symm)) _).trans s3, (OwnF.cell_same (Below.heap_setCell _ _ _ _ (fun e => hnw e.symm)) _).trans s4⟩ (fun hHeld => ?_)
   clear hK K
   (try simp only [Act.put, List.setIfInBounds_toArray, List.set_cons_zero, List.set_cons_succ])
   refine wpAnyH_done (by kernel_rfl) ?_ _
   first | go_end0 | refine bodyPost_ret (results_none rfl _ _ _) rfl ?_
   exact Fin.out _ _ Hr7.out Hb7.out
 ·go_simp
  have hbm := ((Below.refl w2.heap.size w2).alloc (Nat.le_refl _) (.cells #[.int .i64 (i : Int)] 3)).drew
  have hvb : (w2.alloc (.cells #[.int .i64 (i : Int)] 3)).drew.heap[w2.heap.size]? = _ := World.alloc_heap_new w2 (.cells #[.int .i64 (i : Int)] 3)
  have hsm : w2.heap.size < (w2.alloc (.cells #[.int .i64 (i : Int)] 3)).drew.heap.size := by simp
  obtain ⟨wm, hwm⟩ : ∃ wm, (w2.alloc (.cells #[.int .i64 (i : Int)] 3)).drew = wm := ⟨_, rfl⟩
  obtain ⟨vb, hvbe⟩ : ∃ vb, w2.heap.size = vb := ⟨_, rfl⟩
  rw [hwm] at hbm hvb hsm
  (try rw [hwm])
  rw [hvbe] at hvb hsm
  (try rw [hvbe])
  have Hvbe := Lib.hid hvbe
  clear hwm hvbe
  obtain ⟨d1, d2, d3, d4, d5, d6⟩ := Hce.out _ hbm
  have Hbm := Lib.hid hbm; have Hvb := Lib.hid hvb
  clear hbm hvb
  refine hK.out _ _ ⟨d1, d2, d3, d4⟩ (fun hHeld => ?_)
  clear hK K
  (try simp only [Act.put, List.setIfInBounds_toArray, List.set_cons_zero, List.set_cons_succ])
  refine wpAnyH_ready (rs := [20]) (by kernel_rfl) (by simp) ?_
  refine (AllReadyH.cons rfl (fun K hK => ?_) AllReadyH.nil)
  go_simp
  refine hK.out _ _ hHeld (fun hHeld => ?_)
  clear hK K
  (try simp only [Act.put, List.setIfInBounds_toArray, List.set_cons_zero, List.set_cons_succ])
  refine wpAnyH_ready (rs := [21]) (by kernel_rfl) (by simp) ?_
  refine (AllReadyH.cons rfl (fun K hK => ?_) AllReadyH.nil)
  go_simp
  go_at_call 134
  refine (Hcl.out wm Hbm.out).mono ?_
  rintro e w6 ⟨v6, rfl, ho6, hb6⟩
  have hbm6 := Hbm.out.trans (hb6.mono Hbm.out.size)
  obtain ⟨d1, d2, d3, d4, d5, d6⟩ := Hce.out _ hbm6
  have hvb6 := (hb6.block vb (lt_heap Hvb.out)).trans Hvb.out
  have hnb : v6.ownBlock ≠ some vb := fun e => by have := (ho6.lt _ e).1; have := Hvbe.out; omega
  have hom := own_base ho6 Hbm.out.size
  clear Hvb Hbm
  have Hbm := Lib.hid hbm6; have Hvb := Lib.hid hvb6; have Hom := Lib.hid hom
  obtain ⟨wm', hwm'⟩ : ∃ wm', w6 = wm' := ⟨_, rfl⟩
  subst hwm'
  clear ho6 hb6 hbm6 hvb6 hom
  go_simp
  refine hK.out _ _ ⟨d1, d2, d3, d4⟩ (fun hHeld => ?_)
  clear hK K
  (try simp only [Act.put, List.setIfInBounds_toArray, List.set_cons_zero, List.set_cons_succ])
  refine wpAnyH_ready (rs := [33]) (by kernel_rfl) (by simp) ?_
  refine (AllReadyH.cons rfl (fun K hK => ?_) AllReadyH.nil)
  go_simp
  go_at_call 174
  refine (Hin.out w6 v6 vb Hbm.out Hom.out Hvb.out hnb).mono ?_
  rintro e w7 ⟨v7, rfl, hr7, hb7⟩
  obtain ⟨A7, c7, rfl, _, _⟩ := hr7.form
  obtain ⟨s1, s2, s3, s4, s5, s6⟩ := Hce.out _ hb7
  have Hr7 := Lib.hid hr7; have Hb7 := Lib.hid hb7
  clear hr7 hb7
  go_simp
  refine hK.out _ _ ⟨s1, s2, s3, s4⟩ (fun hHeld => ?_)
  clear hK K
  (try simp only [Act.put, List.setIfInBounds_toArray, List.set_cons_zero, List.set_cons_succ])
  refine' wpAnyH_take (i := 34) (v := ?v35) rfl (by kernel_rfl) (by kernel_rfl) (by kernel_rfl) (fun _ _ _ h => h) (Or.inl ⟨by rfl, ?hy35⟩) (by assumption) ?rest35
  case hy35 => (intro w hSw; (try dsimp only at hSw); go_simp; (try with_reducible rfl))
  (try simp only [Act.put, List.setIfInBounds_toArray, List.set_cons_zero, List.set_cons_succ])
  refine' wpAnyH_take (i := 35) (v := ?v36) rfl (by kernel_rfl) (by kernel_rfl) (by kernel_rfl) (fun _ _ _ h => h) (Or.inl ⟨by rfl, ?hy36⟩) (by assumption) ?rest36
  case hy36 => (intro w hSw; (try dsimp only at hSw); go_simp; (try with_reducible rfl))
  (try simp only [Act.put, List.setIfInBounds_toArray, List.set_cons_zero, List.set_cons_succ])
  refine wpAnyH_ready (rs := [36]) (by kernel_rfl) (by simp) ?_
  refine (AllReadyH.cons rfl (fun K hK => ?_) AllReadyH.nil)
  go_simp
  refine hK.out _ _ ⟨(OwnF.cell_same (Below.heap_setCell _ _ _ _ (fun e => hnw e.symm)) _).trans s1, (OwnF.cell_same (Below.heap_setCell _ _ _ _ (fun e => hnw e.symm)) _).trans s2, (OwnF.cell_same (Below.heap_setCell _ _ _ _ (fun e => hnw e.symm)) _).trans s3, (OwnF.cell_same (Below.heap_setCell _ _ _ _ (fun e => hnw e.symm)) _).trans s4⟩ (fun hHeld => ?_)
  clear hK K
  (try simp only [Act.put, List.setIfInBounds_toArray, List.set_cons_zero, List.set_cons_succ])
  refine wpAnyH_done (by kernel_rfl) ?_ _
  first | go_end0 | refine bodyPost_ret (results_none rfl _ _ _) rfl ?_
  exact Fin.out _ _ Hr7.out Hb7.out
end
end Go.Proofs.YtmbhkkophkccbaaGreat.Work
end
