/- Joined by a program: ADel, ASet, ASetB, AUnset, ShelfF, AIns. -/
import Derived.Shelf.RegionOpenPlain
import Derived.Deep.RegionLaw
import Derived.Lib.SliceRun
import Derived.Laws.IdiomCopy
import Derived.Ground.Names2Prog
import Derived.Shelf.Spec.SlicesInsert
import Derived.Shelf.Spec.SlicesInsertGrow
import Derived.Test.YthdenkkllpkplaaGreatProg
import Derived.Test.YthdenkkllpkplaaGreatC11
import Derived.Test.YthdenkkllpkplaaGreatC08
import Derived.Test.YthdenkkllpkplaaGreatC02
section
/- slices.Delete of one attribute in a row of one's own. -/
namespace Go.Proofs.YthdenkkllpkplaaGreat.Work
open Go Go.RowKit Go.Shelf Go.Proofs.YthdenkkllpkplaaGreat.Seq Go.Proofs.YthdenkkllpkplaaGreat.WS Go.Proofs.YthdenkkllpkplaaGreat.FS Go.Proofs.YthdenkkllpkplaaGreat.Mem Go.Proofs.YthdenkkllpkplaaGreat.Rd Go.Proofs.YthdenkkllpkplaaGreat.Shapes Go.Proofs.YthdenkkllpkplaaGreat.Word Go.Proofs.YthdenkkllpkplaaGreat.FFam Go.Proofs.YthdenkkllpkplaaGreat.OwnF
set_option linter.unusedVariables false
set_option linter.unusedSimpArgs false

theorem info_attr : (Tryz.prog.info? 59).map (fun i => (i.zero, i.size, i.bytes)) = some (some (.agg #[.string ⟨#[]⟩, .string ⟨#[]⟩]), 2, 32) := by kernel_rfl
theorem RdS_attrs {S : Nat → Prop} {w : World} {b c : Nat} {l : List Av} (n : Nat) (hn : l.length = n) (hc : l.length ≤ c) (hm : c ≤ maxLen) (hS : S b) (hlt : b < w.heap.size) (hcell : ∀ m u, (Its.atCells l)[m]? = some u → w.cell? ⟨b, m, none⟩ = some u) (hsm : ∀ a ∈ l, a.name.size ≤ maxLen ∧ a.value.size ≤ maxLen) :
    RdS attrS 2 S w (.slice (some ⟨b, 0, none⟩) n c) l := by
  subst hn
  refine ⟨_, _, rfl, hc, hm, fun h1 => ⟨b, 0, rfl, hS, hlt, fun i hi => ⟨[.string l[i].name, .string l[i].value], rfl, fun j u hj => ?_, rfl, (hsm _ (List.getElem_mem hi)).1, (hsm _ (List.getElem_mem hi)).2⟩⟩⟩
  refine hcell _ _ ?_
  have ha := Its.atCells_at hi
  have hjl : j < 2 := by have := (List.getElem?_eq_some_iff.1 hj).1; simpa using this
  rw [← ha, List.getElem?_take, if_pos hjl, List.getElem?_drop] at hj
  rw [show 0 + i * 2 + j = i * 2 + j by omega]
  exact hj
theorem atCells_one (l : List Av) : ∀ u ∈ Its.atCells l, u.oneCell' = true := by
  intro u hu
  unfold Its.atCells at hu
  rw [List.mem_flatMap] at hu
  obtain ⟨a, _, hu⟩ := hu
  simp at hu
  rcases hu with rfl | rfl <;> rfl
theorem atCells_drop (l : List Av) (i : Nat) : Its.atCells (l.drop i) = (Its.atCells l).drop (i * 2) := by
  induction l generalizing i with
  | nil => simp [Its.atCells]
  | cons a l ih =>
    cases i with
    | zero => simp
    | succ i =>
      rw [List.drop_succ_cons, ih]
      unfold Its.atCells
      rw [List.flatMap_cons]
      simp only [List.cons_append, List.nil_append]
      rw [show (i + 1) * 2 = i * 2 + 1 + 1 by omega, List.drop_succ_cons, List.drop_succ_cons]
theorem atCells_take (l : List Av) (i : Nat) : Its.atCells (l.take i) = (Its.atCells l).take (i * 2) := by
  induction l generalizing i with
  | nil => simp [Its.atCells]
  | cons a l ih =>
    cases i with
    | zero => simp [Its.atCells]
    | succ i =>
      rw [List.take_succ_cons]
      have := ih i
      unfold Its.atCells at this ⊢
      rw [List.flatMap_cons, List.flatMap_cons, this]
      simp only [List.cons_append, List.nil_append]
      rw [show (i + 1) * 2 = i * 2 + 1 + 1 by omega, List.take_succ_cons, List.take_succ_cons]
theorem atCells_erase (l : List Av) (i : Nat) : Its.atCells (l.eraseIdx i) = (Its.atCells l).take (i * 2) ++ (Its.atCells l).drop ((i + 1) * 2) := by
  rw [List.eraseIdx_eq_take_drop_succ, ← atCells_take, ← atCells_drop]
  unfold Its.atCells
  rw [List.flatMap_append]
theorem below_setCells {B b : Nat} (hb : B ≤ b) : ∀ (vs : List Value) (o : Nat) (w : World), Below B w (w.setCells b o vs)
  | [], _, _ => Below.refl _ _
  | v :: r, o, w => ((Below.refl _ _).setCell hb _).trans (below_setCells hb r _ _)
theorem isSome_cells (b : Nat) (vs : List Value) (o : Nat) (w : World) (h : ∀ j, j < vs.length → (w.cell? ⟨b, o + j, none⟩).isSome = true) (k : Nat) (hk : (w.cell? ⟨b, k, none⟩).isSome = true) : ((w.setCells b o vs).cell? ⟨b, k, none⟩).isSome = true := by
  by_cases hin : o ≤ k ∧ k < o + vs.length
  · have := World.cell?_setCells_in b vs o w h (k - o) (by omega)
    rw [show o + (k - o) = k by omega] at this
    rw [this]; rfl
  · rw [World.cell?_setCells_out b vs o w ⟨b, k, none⟩ (fun _ _ => by show k < o ∨ o + vs.length ≤ k; omega)]
    exact hk
theorem clear_two (w : World) (ty : TypeId) (b o c : Nat) (hc : ∀ j, j < 2 → (w.cell? ⟨b, o + j, none⟩).isSome = true) (hf : ∀ j, j < 2 → w.frozen? ⟨b, o + j, none⟩ = false) :
    (Builtin.clear_ #[52] ty #[.slice (some ⟨b, o, none⟩) 1 c]).run Tryz.prog w = .ok (.tuple #[]) (w.setCells b o [.string ⟨#[]⟩, .string ⟨#[]⟩]) := by
  have hst := run_storeCells_cells (P := Tryz.prog) b o [.string ⟨#[]⟩, .string ⟨#[]⟩] 0 w (by simpa using hc) (by simpa using hf) (by simp [Value.oneCell'])
  simp only [Nat.add_zero] at hst
  have hz : (Builtin.zeroCells (Value.agg #[.string ⟨#[]⟩, .string ⟨#[]⟩]).cells 1).toList = [.string ⟨#[]⟩, .string ⟨#[]⟩] := by
    unfold Builtin.zeroCells
    simp [Value.cells, List.range_succ]
  simp [Builtin.clear_, run_underlying Tryz.underlying52, Tryz.zeroValue59, hz, hst]
set_option maxHeartbeats 4000000 in
set_option maxRecDepth 100000 in
theorem deleteA_calls (w : World) (B : Nat) (v : Value) (l : List Av) (i : Nat) (h : w.ownsRow B 59 2 v l.length (Its.atCells l)) (hi : i < l.length) (hl : l.length ≤ 1000) (hsm : ∀ a ∈ l, a.name.size ≤ maxLen ∧ a.value.size ≤ maxLen) :
    Calls Tryz.prog 125 #[v, .int .i64 i, .int .i64 ((i : Int) + 1)] w fun e w' => ∃ v', e = .returned v' ∧ RdS attrS 2 (fun b => B ≤ b) w' v' (l.eraseIdx i) ∧ Below B w w' := by
  obtain ⟨m, hm⟩ : ∃ m, l.length = m + 1 := ⟨l.length - 1, by omega⟩
  rw [hm] at h hi hl
  have hlt := h.lt
  have hcells := fun (g : Nat) (e : v.ownBlock = some g) => h.cells (g := g) e
  have hal := Its.atCells_length l
  rw [hm] at hal
  have hone := atCells_one l
  have her := atCells_erase l i
  rcases h.2 with ⟨_, hn⟩ | ⟨g, cap, cur, rfl, hgb, hgh, hgc, hgm, hcs, _⟩
  · omega
  have hg := (hlt g rfl).2
  have hcg : ∀ j u, (Its.atCells l)[j]? = some u → w.cell? ⟨g, j, none⟩ = some u := fun j u hj => by
    have := hcells g rfl j u hj
    rwa [Addr.add_lit, Nat.zero_add] at this
  have hfz := free_of hgh
  have hsp : ∀ j, j < cap * 2 → (w.cell? ⟨g, j, none⟩).isSome = true := fun j hj => by
    rw [cell_of_row _ _ _ _ _ _ hgh, Array.getElem?_eq_getElem (by omega)]
    rfl
  obtain ⟨i0, hi0, hz0, hz1, hz2⟩ := info_parts info_attr
  obtain ⟨news, hnews⟩ : ∃ news, news = (Its.atCells l).drop ((i + 1) * 2) := ⟨_, rfl⟩
  have hnl : news.length = (m - i) * 2 := by rw [hnews, List.length_drop, hal]; omega
  obtain ⟨A, hA, hsrc⟩ : ∃ A : Addr, (if cap = i + 1 then (some ⟨g, 0, none⟩ : Option Addr) else some ⟨g, (i + 1) * 2, none⟩) = some A ∧ Hid (∀ t u, news[t]? = some u → w.drew.cell? (A.add t) = some u) := by
    by_cases hc : cap = i + 1
    · refine ⟨⟨g, 0, none⟩, by simp [hc], fun t u hu => ?_⟩
      have h0 : news.length = 0 := by rw [hnl]; omega
      rw [List.length_eq_zero_iff.1 h0] at hu
      simp at hu
    · refine ⟨⟨g, (i + 1) * 2, none⟩, by simp [hc], fun t u hu => ?_⟩
      rw [hnews, List.getElem?_drop] at hu
      rw [Addr.add_lit]
      exact hcg _ _ hu
  have s1 : Hid (news.length = (m - i) * 2) := hnl
  have s2 : Hid (∀ u ∈ news, u.oneCell' = true) := fun u hu => hone u (List.mem_of_mem_drop (hnews ▸ hu))
  have s3 : Hid (∀ t, t < news.length → (w.drew.cell? ⟨g, 0 + i * 2 + t, none⟩).isSome = true ∧ w.drew.frozen? ⟨g, 0 + i * 2 + t, none⟩ = false) := fun t ht => ⟨hsp _ (by rw [hnl] at ht; omega), hfz _⟩
  obtain ⟨W1, hW1⟩ : ∃ W1, W1 = w.drew.setCells g (0 + i * 2) news := ⟨_, rfl⟩
  have hsp1 : ∀ j, j < cap * 2 → (W1.cell? ⟨g, j, none⟩).isSome = true := fun j hj => by
    rw [hW1]
    exact isSome_cells g news (0 + i * 2) w.drew (fun k hk => hsp _ (by rw [hnl] at hk; omega)) _ (hsp j hj)
  have hcl : ∀ ty c, (Builtin.clear_ #[52] ty #[.slice (some ⟨g, m * 2, none⟩) 1 c]).run Tryz.prog W1 = .ok (.tuple #[]) (W1.setCells g (m * 2) [.string ⟨#[]⟩, .string ⟨#[]⟩]) := fun ty c =>
    clear_two W1 ty g _ c (fun j hj => hsp1 _ (by omega)) (fun j hj => by rw [hW1, World.frozen?_setCells]; exact hfz _)
  have HW := Lib.hid hW1; have Hnews := Lib.hid hnews; have HA := Lib.hid hA
  have hic : i ≤ cap := by omega
  have hjc : (i : Int) + 1 ≤ (cap : Int) := by omega
  have hjl : (i : Int) + 1 ≤ (m : Int) + 1 := by omega
  have mixed : Tryz.prog.follows .mixedOrders = true := by kernel_rfl
  have hb1 : (0 : Int) ≤ (i : Int) + 1 := by omega
  have htn : ((i : Int) + 1).toNat = i + 1 := by omega
  clear h hlt hcells hal hone hW1 hsp1 hnews hnl hA
  have Hm := Lib.hid hm
  have hmi : i + (m - i) = m := by omega
  have hcm : ¬ (cap = m) := by omega
  have hmc : (m : Int) + 1 ≤ (cap : Int) := by omega
  clear hm
  simp only [maxLen] at hgm
  go_enter Tryz.func125, Tryz.ntmps125
  go_wp2_with fail
  go_region_law_o (refine step_append_room rfl (.tmp 22) (.tmp 25) 52 rfl 59 i0 2 Tryz.underlying52 hi0 hz1 g 0 i cap (by simp [Act.eval, Act.put]) A (m - i) (cap - (i + 1)) news (by simp [Act.eval, Act.put]; exact HA.out) s1.out hsrc.out s2.out (by omega) s3.out ?_; rw [← HW.out])
  go_wp2
  all_goals
    go_ret
    have hB1 : Below B w W1 := by rw [HW.out]; exact ((Below.refl B w).drew).trans (below_setCells hgb _ _ _)
    have hB2 : Below B w (W1.setCells g (m * 2) [.string ⟨#[]⟩, .string ⟨#[]⟩]) := hB1.trans (below_setCells hgb _ _ _)
    have hel : (l.eraseIdx i).length = m := by rw [List.length_eraseIdx, Hm.out]; split <;> omega
    have hal : (Its.atCells l).length = (m + 1) * 2 := by rw [Its.atCells_length, Hm.out]
    refine ⟨_, rfl, RdS_attrs _ hel (by omega) (by simp only [maxLen]; omega) hgb (Nat.lt_of_lt_of_le hg hB2.size) (fun t u hu => ?_) (fun a ha => hsm a (List.mem_of_mem_eraseIdx ha)), hB2⟩
    have htl : t < m * 2 := by
      have := (List.getElem?_eq_some_iff.1 hu).1
      rwa [Its.atCells_length, hel] at this
    rw [her] at hu
    rw [World.cell?_setCells_out _ _ _ _ _ (fun _ _ => Or.inl (by show t < m * 2; omega)), HW.out]
    have htk : ((Its.atCells l).take (i * 2)).length = i * 2 := by rw [List.length_take, hal]; omega
    by_cases hti : t < i * 2
    · rw [World.cell?_setCells_out _ _ _ _ _ (fun _ _ => Or.inl (by show t < 0 + i * 2; omega))]
      rw [List.getElem?_append_left (by rw [htk]; exact hti), List.getElem?_take, if_pos hti] at hu
      exact hcg t u hu
    · rw [List.getElem?_append_right (by rw [htk]; omega), htk, ← Hnews.out] at hu
      have hlt := (List.getElem?_eq_some_iff.1 hu).1
      have := World.cell?_setCells_in g news (0 + i * 2) w.drew (fun k hk => hsp _ (by rw [s1.out] at hk; omega)) (t - i * 2) hlt
      rw [show 0 + i * 2 + (t - i * 2) = t by omega] at this
      rw [this, ← hu, List.getElem?_eq_getElem hlt]
end Go.Proofs.YthdenkkllpkplaaGreat.Work
end
section
/- apply: a copy of attributes. -/
namespace Go.Proofs.YthdenkkllpkplaaGreat.Work
open Go Go.RowKit Go.Proofs.YthdenkkllpkplaaGreat.Seq Go.Proofs.YthdenkkllpkplaaGreat.WS Go.Proofs.YthdenkkllpkplaaGreat.FS Go.Proofs.YthdenkkllpkplaaGreat.Mem Go.Proofs.YthdenkkllpkplaaGreat.Rd Go.Proofs.YthdenkkllpkplaaGreat.Shapes Go.Proofs.YthdenkkllpkplaaGreat.Word Go.Proofs.YthdenkkllpkplaaGreat.FFam Go.Proofs.YthdenkkllpkplaaGreat.OwnF
set_option linter.unusedVariables false
set_option linter.unusedSimpArgs false

theorem attr_cells {B : Nat} {w : World} {a : Addr} {c : Nat} {l : List Av} (h : RdL attrE 2 B w (.slice (some a) l.length c) l) : ∀ j u, (Its.atCells l)[j]? = some u → w.cell? (a.add j) = some u := by
  intro j u hj
  have hlt := (List.getElem?_eq_some_iff.1 hj).1
  rw [Its.atCells_length] at hlt
  have hi : j / 2 < l.length := by omega
  obtain ⟨b, o, e, _, g0, g1, _, _⟩ := FAttr.attr_at h hi
  injection e with e
  subst e
  rw [Addr.add_lit]
  have ha := Its.atCells_at hi
  have hj2 : (((Its.atCells l).drop (j / 2 * 2)).take 2)[j % 2]? = some u := by
    rw [List.getElem?_take, if_pos (Nat.mod_lt _ (by decide)), List.getElem?_drop, show j / 2 * 2 + j % 2 = j by omega, hj]
  rw [ha] at hj2
  rcases Nat.mod_two_eq_zero_or_one j with h2 | h2
  · rw [h2] at hj2
    simp at hj2
    rw [← hj2, show o + j = o + j / 2 * 2 by omega]
    exact g0
  · rw [h2] at hj2
    simp at hj2
    rw [← hj2, show o + j = o + j / 2 * 2 + 1 by omega]
    exact g1
set_option maxRecDepth 100000 in
set_option maxHeartbeats 2000000 in
theorem cloneA_calls (w : World) (v : Value) (l : List Av) (h : RdL attrE 2 w.heap.size w v l) (hl : l.length ≤ 1000) :
    Calls Tryz.prog 126 #[v] w fun e w' => ∃ v', e = .returned v' ∧ w'.ownsRow w.heap.size 59 2 v' l.length (Its.atCells l) ∧ Below w.heap.size w w' := by
  obtain ⟨A, c, rfl, hc, hm, hr⟩ := h.form
  cases A with
  | none =>
    have hl0 : l = [] := by
      cases l with
      | nil => rfl
      | cons y r => obtain ⟨b, o, e, _⟩ := FAttr.attr_at h (i := 0) (by simp); cases e
    subst hl0
    refine (AnyE.slices_Clone_nil Tryz.laysClA _ _ w).mono ?_
    rintro e w' ⟨rfl, rfl⟩
    exact ⟨_, rfl, World.ownsRow_nil _ _ _ _, Below.refl _ _⟩
  | some a =>
    obtain ⟨i0, hi, hz0, hz1, hz2⟩ := info_parts info_attr
    have hcells := attr_cells h
    have hlen := Its.atCells_length l
    have hone := atCells_one l
    have Hc := Lib.hid hcells; have Ho := Lib.hid hone; have HL := Lib.hid hlen
    have q22 : ∀ (w : World) (a : Option Addr) (n c n' c' : Nat), (binOp .eql 52 (.slice a n c) (.slice none n' c')).run Tryz.prog w = .ok (.bool a.isNone) w := fun w a n c n' c' => Lib.run_eql_slice_nil w _ _ a n c n' c' Tryz.underlying52
    clear h hr hcells hlen hone
    go_enter Tryz.func126, Tryz.ntmps126
    go_wp2_with (at_builtin; go_loud (refine wpList_append_own _ rfl _ _ 52 rfl w.heap.size 59 i0 _ 2 32 Tryz.underlying52 hi hz0 hz1 hz2 rfl (by decide) _ _ _ rfl (World.ownsRow_made w #[] 0 (Nat.le_refl _) (Nat.zero_le _) rfl) a l.length c (Its.atCells l) rfl HL.out (fun j u hj => cell_alloc (Hc.out j u hj) _) Ho.out (by simp only [maxLen]; omega) (by omega) (by simp) ?_; intro v' w1 hown hgrow hnil; have Hown := Lib.hid hown; have Hgrow := Lib.hid hgrow; clear hown hgrow hnil))
    go_ret
    refine ⟨v', rfl, by simpa using Hown.out, ?_⟩
    exact ((Below.refl _ w).alloc (Nat.le_refl _) _).grown Hgrow.out (by simp) (by intro k hk; simp only [Value.ownBlock] at hk; injection hk with hk; first | omega | (have hk2 : w.heap.size = k := hk; omega))
/-- A field is turned; the world behind it is any that keeps all else. -/
theorem put_at {X : Nat → Prop} {T : TypeId} {base : Nat} {w w' : World} {f : Fo} {g c : Nat} (h : OwnX X T base w (.slice (some ⟨g, 0, none⟩) f.length c) f) {i j : Nat} (hi : i < f.length) (hj : j < 6) {u : Value} {n : Nd} (hgl : g < w.heap.size)
    (hsame : ∀ b, b < w.heap.size → b ≠ g → X b → w'.heap[b]? = w.heap[b]?) (hg : w'.heap[g]? = (w.setCell ⟨g, i * 6 + j, none⟩ u).heap[g]?) (hs : w.heap.size ≤ w'.heap.size)
    (hn : ∀ cs, nodeS (fun b => b ≠ g ∧ X b) w cs f[i] → nodeS (fun b => b ≠ g ∧ X b) w' (cs.set j u) n) : OwnX X T base w' (.slice (some ⟨g, 0, none⟩) f.length c) (f.set i n) := by
  obtain ⟨xs, h1, h2⟩ := h
  have hS : (fun b => (Value.slice (some ⟨g, 0, none⟩) f.length c).ownBlock ≠ some b ∧ X b) = (fun b => b ≠ g ∧ X b) := by
    funext b
    simp only [Value.ownBlock, eq_iff_iff]
    constructor
    · intro h; exact ⟨fun e => h.1 (by rw [e]), h.2⟩
    · intro h; exact ⟨fun e => by injection e with e; exact h.1 e.symm, h.2⟩
  refine ⟨xs.set (i * 6 + j) u, ?_, fun k hk' => ?_⟩
  · rw [List.length_set]
    exact own_keep (h1.stored (i * 6 + j) u).1 (fun b hb => by
      have e : g = b := by simp only [Value.ownBlock] at hb; injection hb
      subst e
      exact hg)
  · rw [List.length_set] at hk'
    rw [hS] at h2 ⊢
    by_cases e : i = k
    · subst e
      rw [List.getElem_set_self, take_set_eq hj]
      exact hn _ (h2 i hk')
    · rw [List.getElem_set_ne e, take_set_ne (fun h => e h.symm) hj]
      exact (h2 k hk').keep (fun b hb hl => hsame b hl hb.1 hb.2) hs (fun _ x _ => x)
theorem setCell_block {w w' : World} {g i : Nat} {v : Value} (h : w'.heap[g]? = w.heap[g]?) : (w'.setCell ⟨g, i, none⟩ v).heap[g]? = (w.setCell ⟨g, i, none⟩ v).heap[g]? := by
  rw [Sort.setCell_eq, Sort.setCell_eq]
  simp only [Sort.mapBlock]
  rw [Array.getElem?_modify, Array.getElem?_modify, h]
section
variable [Avoid] {base wk g c : Nat} {o : Opn} {f : Fo}
/-- The attributes of a node are stored; what else the world has come to matters not. -/
theorem attrs_put {w w' : World} (h : Wk base wk g c o f w) {k : Nat} (hkl : k < f.length) (v' : Value) (l : List Av) (hsame : ∀ b, b < w.heap.size → b ≠ g → w'.heap[b]? = w.heap[b]?) (hg : w'.heap[g]? = (w.setCell ⟨g, k * 6 + 3, none⟩ v').heap[g]?) (hs : w.heap.size ≤ w'.heap.size)
    (hr : RdS attrS 2 (fun b => w.heap.size ≤ b) w' v' l) : Wk base wk g c o (f.set k { at_ f (k : Int) with attrs := l }) w' := by
  have hgl := (h.base_le (by omega)).2
  have hgb := (h.base_le (by omega)).1
  have hlo := h.lo
  have hwl := lt_heap h.box
  have e : at_ f (k : Int) = f[k] := at_nat hkl
  rw [e]
  refine ⟨?_, ?_, h.ne, ?_, h.lo⟩
  · rw [List.length_set]
    exact (hsame wk hwl (fun e => h.ne e.symm)).trans h.box
  · rw [List.length_set]
    exact put_at h.ownx hkl (by decide) hgl (fun b hb hne _ => hsame b hb hne) hg hs (fun cs hcs => by
      obtain ⟨va, vk, rfl, r1, r2, r3, r4, r5, r6⟩ := hcs
      exact ⟨v', vk, rfl, hr.keep (fun _ _ _ => rfl) (Nat.le_refl _) (fun b hb _ => by omega), r2.keep (fun b hb hl => hsame b hl hb.1) hs (fun _ x _ => x), r3, r4, r5, r6⟩)
  · rw [List.length_set]
    exact h.big
end
end Go.Proofs.YthdenkkllpkplaaGreat.Work
end
section
/- apply.set. -/
namespace Go.Proofs.YthdenkkllpkplaaGreat.Work
open Go Go.RowKit Go.Proofs.YthdenkkllpkplaaGreat.Seq Go.Proofs.YthdenkkllpkplaaGreat.WS Go.Proofs.YthdenkkllpkplaaGreat.FS Go.Proofs.YthdenkkllpkplaaGreat.Mem Go.Proofs.YthdenkkllpkplaaGreat.Rd Go.Proofs.YthdenkkllpkplaaGreat.Shapes Go.Proofs.YthdenkkllpkplaaGreat.Word Go.Proofs.YthdenkkllpkplaaGreat.FFam Go.Proofs.YthdenkkllpkplaaGreat.OwnF
set_option linter.unusedVariables false
set_option linter.unusedSimpArgs false

theorem atCells_set {l : List Av} {j : Nat} (hj : j < l.length) (t : ByteArray) : Its.atCells (l.set j ⟨l[j].name, t⟩) = (Its.atCells l).set (j * 2 + 1) (.string t) := by
  induction l generalizing j with
  | nil => cases hj
  | cons a l ih =>
    cases j with
    | zero => rfl
    | succ j =>
      have := ih (j := j) (by simpa using hj)
      unfold Its.atCells at this ⊢
      rw [List.set_cons_succ, List.flatMap_cons, List.flatMap_cons]
      simp only [List.getElem_cons_succ]
      rw [this]
      simp only [List.cons_append, List.nil_append]
      rw [show (j + 1) * 2 + 1 = (j * 2 + 1) + 1 + 1 by omega, List.set_cons_succ, List.set_cons_succ]
theorem setCell_twice {w w' : World} {g i : Nat} {u v : Value} (h : w'.heap[g]? = (w.setCell ⟨g, i, none⟩ u).heap[g]?) : (w'.setCell ⟨g, i, none⟩ v).heap[g]? = (w.setCell ⟨g, i, none⟩ v).heap[g]? := by
  rw [setCell_block h, Sort.setCell_eq, Sort.setCell_eq, Sort.setCell_eq, Sort.mapBlock_mapBlock]
  simp only [Sort.mapBlock]
  rw [Array.getElem?_modify, Array.getElem?_modify]
  congr 2
  funext c
  simp
section
variable [Avoid] {base wk g c : Nat} {o : Opn} {f : Fo}
end
section
variable {base wk g c : Nat} {o : Opn} {f : Fo}
theorem frozen_same {w w' : World} {g : Nat} (h : w'.heap[g]? = w.heap[g]?) (j : Nat) : w'.frozen? ⟨g, j, none⟩ = w.frozen? ⟨g, j, none⟩ := by simp [World.frozen?, h]
end
section
variable [Avoid] {base wk g c : Nat} {o : Opn} {f : Fo}
end
section
variable {base wk g c : Nat} {o : Opn} {f : Fo}
theorem set_self {f : Fo} {k : Nat} (hk : k < f.length) : f.set k { at_ f (k : Int) with attrs := (at_ f (k : Int)).attrs } = f := by
  rw [at_nat hk]
  exact List.set_getElem_self hk
end
section
variable [Avoid] {base wk g c : Nat} {o : Opn} {f : Fo}
set_option maxRecDepth 100000 in
set_option maxHeartbeats 4000000 in
theorem set_do (hm : mayB f = true) (hi : isNode f o.id = true) (hla : (at_ f o.id).attrs.length ≤ 8) (hnm : o.name.size ≤ maxLen) (htx : o.text.size ≤ maxLen) (hbw : base ≤ wk) : Do 122 base wk g c o f (f.set o.id.toNat { at_ f o.id with attrs := setA (at_ f o.id).attrs o.name o.text }) := by
  intro w h
  obtain ⟨k, hk, hkl⟩ := node_nat hi
  rw [hk] at hla ⊢
  rw [Int.toNat_natCast]
  have hi' := hi
  rw [hk] at hi'
  obtain ⟨va, _, _, _, _, k3, _, _, ra, _⟩ := h.node hi'
  rw [Int.toNat_natCast] at k3
  have hbs := h.base_size (by omega)
  have hn := node_at2 h rfl hk hkl
  have hcl := fun n => cloneA_calls (w.drewN n) va _ ((ra.keep (w' := w.drewN n) (fun _ _ _ => rfl) (Nat.le_refl _) (fun b x _ => x)).rd) (by omega)
  have hfz := (h.free (by omega)).1 (k * 6 + 3)
  obtain ⟨Aa, ca, rfl, hca, hcm⟩ := ra.form
  have hgl := (h.base_le (by omega)).2
  have hwl := lt_heap h.box
  have hgb := (h.base_le (by omega)).1
  have Hn := Lib.hid hn; have Hcl := Lib.hid hcl; have H := Lib.hid h; have Hk := Lib.hid hk; have Hm := Lib.hid hm; have Hi := Lib.hid hi
  have Hra := Lib.hid ra
  clear hn hcl h hk hm hi hi' ra
  go_enter Tryz.func122, Tryz.ntmps122
  go_upto_region 2 with (first
    | (go_at_call 114; ((with_reducible refine (Hn.out).mono ?_); rintro e w5 ⟨rfl, n5, rfl⟩))
    | (go_at_call 126; ((with_reducible refine (Hcl.out n5).mono ?_); rintro e w6 ⟨v6, rfl, ho6, hb6⟩; obtain ⟨A6, n6, c6, rfl⟩ := Build.own_form ho6; have hb6' : Below w.heap.size w w6 := (drewN_below (Below.refl _ _) n5).trans hb6; have k6 := cell_grow hb6' k3; have f6 := ((H.out.below hb6').free (by omega)).1 (k * 6 + 3); have Ho6 := Lib.hid ho6; have Hb6 := Lib.hid hb6'; clear ho6 hb6 hb6')))
  obtain ⟨w7, hw7⟩ : ∃ w7, w6.setCell ⟨g, k * 6 + 3, none⟩ (.slice A6 n6 c6) = w7 := ⟨_, rfl⟩
  have hsm : ∀ a ∈ (at_ f (k : Int)).attrs, a.name.size ≤ maxLen ∧ a.value.size ≤ maxLen := Its.attrs_small (Hra.out.rd)
  have ho7 : w7.ownsRow w.heap.size 59 2 (.slice A6 n6 c6) (at_ f (k : Int)).attrs.length (Its.atCells (at_ f (k : Int)).attrs) := by
    rw [← hw7]
    exact own_keep Ho6.out (fun b hb => Below.heap_setCell _ _ _ _ (fun e => by have h1 : w.heap.size ≤ b := (Ho6.out.lt b hb).1; have e2 : b = g := e; omega))
  have hr7 : RdS attrS 2 (fun b => w.heap.size ≤ b) w7 (.slice A6 n6 c6) (at_ f (k : Int)).attrs := Its.rows_attrs ho7 (fun b hb => (ho7.lt b hb).1) hsm
  have hS7 : ∀ b, b < w.heap.size → b ≠ g → w7.heap[b]? = w.heap[b]? := fun b hb hne => by rw [← hw7]; exact (Below.heap_setCell _ _ _ _ hne).trans (Hb6.out.block b hb)
  have hG7 : w7.heap[g]? = (w.setCell ⟨g, k * 6 + 3, none⟩ (.slice A6 n6 c6)).heap[g]? := by rw [← hw7]; exact setCell_block (Hb6.out.block g hgl)
  have hs7 : w.heap.size ≤ w7.heap.size := by rw [← hw7]; have := Hb6.out.size; simp [World.setCell]; exact this
  have hW7 : Wk base wk g c o f w7 := by
    have := attrs_put H.out hkl (.slice A6 n6 c6) (at_ f (k : Int)).attrs (w' := w7) hS7 hG7 hs7 hr7
    rwa [set_self hkl] at this
  have k7 : w7.cell? ⟨g, k * 6 + 3, none⟩ = some (.slice A6 n6 c6) := by rw [← hw7]; exact World.cell?_setCell_same w6 _ _ k6
  have hB7 : Below base w w7 := by rw [← hw7]; exact (Hb6.out.mono hbs).setCell hgb _
  have ha7 := attribute_calls w7 hW7 Hi.out
  rw [hw7]
  rw [Hk.out] at ha7
  have HW7 := Lib.hid hW7; have HB7 := Lib.hid hB7; have Ho7 := Lib.hid ho7; have HS7 := Lib.hid hS7; have HG7 := Lib.hid hG7
  clear hW7 hB7 ho7 hr7 hw7 k6 f6 Hn Hcl hS7 hG7
  -- what is left to show, behind the last store
  have fin : ∀ (w8 w' : World) (v' : Value) (l' : List Av), Below w7.heap.size w7 w8 → (∀ b, b < w.heap.size → b ≠ g → w'.heap[b]? = w8.heap[b]?) → w'.heap[g]? = (w.setCell ⟨g, k * 6 + 3, none⟩ v').heap[g]? → w8.heap.size ≤ w'.heap.size → RdS attrS 2 (fun b => w.heap.size ≤ b) w' v' l' →
      Below base w8 w' → setA (at_ f (k : Int)).attrs o.name o.text = l' → DoPost base wk o (f.set k { at_ f (k : Int) with attrs := setA (at_ f (k : Int)).attrs o.name o.text }) w (.returned (.tuple #[])) w' := by
    intro w8 w' v' l' hb8 h1 h2 h3 h4 h5 rfl
    refine ⟨rfl, g, c, attrs_put H.out hkl v' _ (fun b hb hne => ((h1 b hb hne).trans (hb8.block b (by omega))).trans (HS7.out b hb hne)) h2 (by have := hb8.size; omega) h4, (HB7.out.trans (hb8.mono (by omega))).trans h5⟩
  have Fin := Lib.hid fin
  clear fin
  cases hfa : findA (at_ f (k : Int)).attrs o.name with
  | some j =>
    obtain ⟨hj, hjn⟩ := findA_some hfa
    have hix : idxP (at_ f (k : Int)).attrs (nameP o) = (j : Int) := by unfold idxP; rw [show (at_ f (k : Int)).attrs.findIdx? (nameP o) = some j from hfa]
    rcases Ho7.out.2 with ⟨_, hn0⟩ | ⟨r, cap, cur, e, hrb, hrh, hrc, hrm, hcs, htk⟩
    · omega
    injection e with e1 e2 e3
    subst e1 e2 e3
    rw [hix] at ha7
    have hset : setA (at_ f (k : Int)).attrs o.name o.text = (at_ f (k : Int)).attrs.set j ⟨(at_ f (k : Int)).attrs[j].name, o.text⟩ := by unfold setA; rw [hfa, hjn]
    have hcr : ∀ m u, (Its.atCells (at_ f (k : Int)).attrs)[m]? = some u → w7.cell? ⟨r, m, none⟩ = some u := fun m u hu => by
      have := Ho7.out.cells (g := r) rfl m u hu
      rwa [Addr.add_lit, Nat.zero_add] at this
    have hr8 : ∀ w8, Below w7.heap.size w7 w8 → RdS attrS 2 (fun b => w.heap.size ≤ b) (w8.setCell ⟨r, j * 2 + 1, none⟩ (.string o.text)) (.slice (some ⟨r, 0, none⟩) (at_ f (k : Int)).attrs.length c6) ((at_ f (k : Int)).attrs.set j ⟨(at_ f (k : Int)).attrs[j].name, o.text⟩) := fun w8 hb8 => by
      have hrl : r < w7.heap.size := lt_heap hrh
      refine RdS_attrs _ (by rw [List.length_set]) (by rw [List.length_set]; exact hrc) hrm hrb (by have := hb8.size; simp [World.setCell]; omega) (fun m u hu => ?_) (fun a ha => ?_)
      · rw [atCells_set hj] at hu
        by_cases em : m = j * 2 + 1
        · subst em
          rw [List.getElem?_set_self (by rw [Its.atCells_length]; omega)] at hu
          injection hu with hu
          subst hu
          have hold : (Its.atCells (at_ f (k : Int)).attrs)[j * 2 + 1]? = some ((Its.atCells (at_ f (k : Int)).attrs)[j * 2 + 1]'(by rw [Its.atCells_length]; omega)) := List.getElem?_eq_getElem _
          exact World.cell?_setCell_same w8 _ _ (cell_grow hb8 (hcr _ _ hold))
        · rw [List.getElem?_set_ne (fun e => em e.symm)] at hu
          rw [World.cell?_setCell_other _ _ _ _ (fun e => em (congrArg Addr.off e).symm)]
          exact cell_grow hb8 (hcr m u hu)
      · rcases List.mem_or_eq_of_mem_set ha with h | rfl
        · exact hsm a h
        · exact ⟨(hsm _ (List.getElem_mem hj)).1, htx⟩
    have hv1 : ∃ u, w7.cell? ⟨r, j * 2 + 1, none⟩ = some (.string u) := by
      have ha := Its.atCells_at hj
      refine ⟨(at_ f (k : Int)).attrs[j].value, hcr _ _ ?_⟩
      have : (((Its.atCells (at_ f (k : Int)).attrs).drop (j * 2)).take 2)[1]? = some (.string (at_ f (k : Int)).attrs[j].value) := by rw [ha]; rfl
      rwa [List.getElem?_take, if_pos (by decide), List.getElem?_drop] at this
    obtain ⟨uv, hv1⟩ := hv1
    have hvf := free_of hrh (j * 2 + 1)
    have hrg : r ≠ g := by omega
    have hrw : r ≠ wk := by omega
    have Ha7 := Lib.hid ha7; have Hset := Lib.hid hset; have Hr8 := Lib.hid hr8; have Hv1 := Lib.hid hv1; have Hvf := Lib.hid hvf; have Hrh := Lib.hid hrh
    have hjl : (j : Int) < ((at_ f (k : Int)).attrs.length : Int) := by omega
    have hj0 : decide ((0 : Int) ≤ (j : Int)) = true := by simp
    clear ha7 hset hcr hr8 hv1 hvf hrh hcs htk hix hfa hjn hsm
    go_upto_region 4 with (go_at_call 121; ((with_reducible refine (Ha7.out).mono ?_); rintro e w8 ⟨rfl, hb8⟩; have k8 := cell_grow hb8 k7; have t6 := cell_grow hb8 HW7.out.cells.2.2.2.2.2.2; have v8 := cell_grow hb8 Hv1.out; have v8f := free_of ((hb8.block r (lt_heap Hrh.out)).trans Hrh.out) (j * 2 + 1); have Hb8 := Lib.hid hb8; clear hb8))
    have hs8 := Hb8.out.size
    go_region_held3 (fun w' => w'.cell? ⟨g, k * 6 + 3, none⟩ = some (.slice (some ⟨r, 0, none⟩) (at_ f (k : Int)).attrs.length c6) ∧ w'.cell? ⟨wk, 6, none⟩ = some (.string o.text))
      (first | exact ⟨k8, t6⟩ | exact ⟨(OwnF.cell_same (Below.heap_setCell _ _ _ _ (fun e => hrg e.symm)) _).trans k8, (OwnF.cell_same (Below.heap_setCell _ _ _ _ (fun e => hrw e.symm)) _).trans t6⟩ | go_keep)
      (fail)
    go_wp2_with fail
    first | go_end0 | refine bodyPost_ret (results_none rfl _ _ _) rfl ?_
    refine Fin.out w8 _ (.slice (some ⟨r, 0, none⟩) (at_ f (k : Int)).attrs.length c6) _ Hb8.out (fun b hb hne => Below.heap_setCell _ _ _ _ (fun e => by have e2 : b = r := e; omega)) ?_ (by simp [World.setCell]) ((Hr8.out w8 Hb8.out).keep (fun _ _ _ => rfl) (Nat.le_refl _) (fun b x _ => x)) (((Below.refl base w8).setCell (by show base ≤ r; omega) _).drew) Hset.out
    exact (Below.heap_setCell _ _ _ _ (fun e => hrg (by exact e.symm))).trans ((Hb8.out.block g (by omega)).trans HG7.out)
  | none =>
    have hix : idxP (at_ f (k : Int)).attrs (nameP o) = -1 := by unfold idxP; rw [show (at_ f (k : Int)).attrs.findIdx? (nameP o) = none from hfa]
    have hset : setA (at_ f (k : Int)).attrs o.name o.text = (at_ f (k : Int)).attrs ++ [⟨o.name, o.text⟩] := by unfold setA; rw [hfa]
    rw [hix] at ha7
    have Ha7 := Lib.hid ha7; have Hset := Lib.hid hset; have Hsm := Lib.hid hsm
    clear ha7 hset hix hfa hsm
    go_upto_region 5 with (go_at_call 121; ((with_reducible refine (Ha7.out).mono ?_); rintro e w8 ⟨rfl, hb8⟩; have k8 := cell_grow hb8 k7; have t5 := cell_grow hb8 HW7.out.cells.2.2.2.2.2.1; have t6 := cell_grow hb8 HW7.out.cells.2.2.2.2.2.2; have k8f := ((HW7.out.below hb8).free (by omega)).1 (k * 6 + 3); have Hb8 := Lib.hid hb8; clear hb8))
    obtain ⟨i0, hi0, hz0, hz1, hz2⟩ := info_parts info_attr
    have hs8 := Hb8.out.size
    have ho8 := own_keep Ho7.out (w' := w8) (fun b hb => Hb8.out.block b (Ho7.out.lt b hb).2)
    have hs8b : w.heap.size ≤ w8.heap.size := by omega
    have hne8 : (Value.slice A6 n6 c6).ownBlock ≠ some g := fun e => by have h1 : w.heap.size ≤ g := (Ho7.out.lt g e).1; omega
    have Ho8 := Lib.hid ho8
    clear ho8
    have hgl8 : g < w8.heap.size := by omega
    go_region_law (refine step_append_lies _ rfl (.tmp 34) (.tmp 46) 52 rfl w.heap.size 59 i0 _ 2 32 Tryz.underlying52 hi0 hz0 hz1 hz2 rfl (by decide) (.slice A6 n6 c6) (at_ f (k : Int)).attrs.length (Its.atCells (at_ f (k : Int)).attrs) (by simp [Act.eval, Act.put]) ((Ho8.out.alloc _).drew) ⟨w8.heap.size, 0, none⟩ 1 1 [.string o.name, .string o.text] (by simp [Act.eval, Act.put]) rfl (World.news_of_block (cs := #[.string o.name, .string o.text]) (t := 59) (fr := (0, 0)) (heap_alloc_new w8 _)) (by simp [Value.oneCell']) (by omega) (by simp only [maxLen]; omega) (by omega) (by simp; omega) (w8.heap.size + 1) (by simp) ?_; intro g9 cap9 w9 hown9 hgrow9 hat9 hlt9; have e9 := hgrow9.block g (by simp; omega) (fun e => hne8 e.symm); have k9 : w9.cell? ⟨g, k * 6 + 3, none⟩ = some (.slice A6 n6 c6) := (OwnF.cell_same e9 _).trans (cell_alloc k8 _); have k9f : w9.frozen? ⟨g, k * 6 + 3, none⟩ = false := (frozen_same (e9.trans (Below.heap_alloc _ _ _ hgl8)) _).trans k8f; have Hown9 := Lib.hid hown9; have Hgrow9 := Lib.hid hgrow9; have Hat9 := Lib.hid hat9; clear e9 hown9 hgrow9 hat9)
    all_goals
      refine bodyPost_ret (results_none rfl _ _ _) rfl ?_
      have hob : ∀ b, (Value.slice A6 n6 c6).ownBlock = some b → w.heap.size ≤ b := fun b hb => (Ho7.out.lt b hb).1
      have hg9 : w.heap.size ≤ g9 := (Hown9.out.lt g9 rfl).1
      have hsz9 := Hgrow9.out.size
      have hsz9' : w8.heap.size ≤ w9.heap.size := Nat.le_trans (by simp) hsz9
      have hB9 : Below base w8 w9 := (((Below.refl base w8).alloc (by omega) _).drew).grown Hgrow9.out (by simp; omega) (fun r hr => by have := hob r hr; omega)
      have hown : (w9.setCell ⟨g, k * 6 + 3, none⟩ (.slice (some ⟨g9, 0, none⟩) ((at_ f (k : Int)).attrs.length + 1) cap9)).ownsRow w.heap.size 59 2 (.slice (some ⟨g9, 0, none⟩) ((at_ f (k : Int)).attrs.length + 1) cap9) ((at_ f (k : Int)).attrs ++ [(⟨o.name, o.text⟩ : Av)]).length (Its.atCells ((at_ f (k : Int)).attrs ++ [(⟨o.name, o.text⟩ : Av)])) := by
        rw [Its.atCells_snoc, List.length_append]
        exact own_keep Hown9.out (fun b hb => Below.heap_setCell _ _ _ _ (fun e => by have h1 := (Hown9.out.lt b hb).1; have e2 : b = g := e; omega))
      refine Fin.out w8 _ (.slice (some ⟨g9, 0, none⟩) ((at_ f (k : Int)).attrs.length + 1) cap9) _ Hb8.out (fun b hb hne => (Below.heap_setCell _ _ _ _ hne).trans ((Hgrow9.out.block b (by simp; omega) (fun e => by have := hob b e.symm; omega)).trans (Below.heap_alloc _ _ _ (by omega)))) ?_ (by simp [World.setCell]; exact hsz9')
        (Its.rows_attrs hown (fun b hb => (hown.lt b hb).1) (fun a ha => by
          rcases List.mem_append.1 ha with h | h
          · exact Hsm.out a h
          · rw [List.mem_singleton.1 h]; exact ⟨hnm, htx⟩)) (hB9.setCell hgb _) Hset.out
      exact setCell_twice (((Hgrow9.out.block g (by simp; omega) (fun e => by have := hob g e.symm; omega)).trans (Below.heap_alloc _ _ _ hgl8)).trans ((Hb8.out.block g (by omega)).trans HG7.out))
end
end Go.Proofs.YthdenkkllpkplaaGreat.Work
end
section
/- apply: an attribute is taken away. -/
namespace Go.Proofs.YthdenkkllpkplaaGreat.Work
open Go Go.RowKit Go.Proofs.YthdenkkllpkplaaGreat.Seq Go.Proofs.YthdenkkllpkplaaGreat.WS Go.Proofs.YthdenkkllpkplaaGreat.FS Go.Proofs.YthdenkkllpkplaaGreat.Mem Go.Proofs.YthdenkkllpkplaaGreat.Rd Go.Proofs.YthdenkkllpkplaaGreat.Shapes Go.Proofs.YthdenkkllpkplaaGreat.Word Go.Proofs.YthdenkkllpkplaaGreat.FFam Go.Proofs.YthdenkkllpkplaaGreat.OwnF
set_option linter.unusedVariables false
set_option linter.unusedSimpArgs false

section
variable [Avoid] {base wk g c : Nat} {o : Opn} {f : Fo}
set_option maxRecDepth 100000 in
set_option maxHeartbeats 4000000 in
theorem unset_do (hi : isNode f o.id = true) (hla : (at_ f o.id).attrs.length ≤ 8) (hh : hasA f o = true) : Do 124 base wk g c o f (f.set o.id.toNat { at_ f o.id with attrs := delA (at_ f o.id).attrs o.name }) := by
  intro w h
  have ha := attribute_calls w h hi
  obtain ⟨k, hk, hkl⟩ := node_nat hi
  unfold hasA at hh
  rw [hk] at hla hh ha ⊢
  rw [Int.toNat_natCast]
  obtain ⟨j, hfa⟩ := Option.isSome_iff_exists.1 hh
  obtain ⟨hj, hjn⟩ := findA_some hfa
  have hix : idxP (at_ f (k : Int)).attrs (nameP o) = (j : Int) := by unfold idxP; rw [show (at_ f (k : Int)).attrs.findIdx? (nameP o) = some j from hfa]
  rw [hix] at ha
  have hdel : delA (at_ f (k : Int)).attrs o.name = (at_ f (k : Int)).attrs.eraseIdx j := by unfold delA; rw [hfa]
  have hi' := hi
  rw [hk] at hi'
  obtain ⟨va, _, _, _, _, k3, _, _, ra, _⟩ := h.node hi'
  rw [Int.toNat_natCast] at k3
  have hbs := h.base_size (by omega)
  have hn := fun w' (hb : Below w.heap.size w w') => (node_at2 (h.below hb) rfl hk hkl).mono (fun e w'' (he : e = .returned (.pointer (some ⟨g, k * 6, none⟩)) ∧ ∃ n, w'' = w'.drewN n) => (show e = .returned (.pointer (some ⟨g, k * 6, none⟩)) ∧ Below w'.heap.size w' w'' from ⟨he.1, by obtain ⟨n, hn⟩ := he.2; rw [hn]; exact drewN_below (Below.refl _ _) n⟩))
  have hcl := fun w' (hb : Below w.heap.size w w') => cloneA_calls w' va _ ((ra.keep (w' := w') (fun b _ hl => hb.block b hl) hb.size (fun b x _ => x)).rd) (by omega)
  have hc3 := fun w' (hb : Below w.heap.size w w') => cell_grow hb k3
  have hf3 := fun w' (hb : Below w.heap.size w w') => ((h.below hb).free (by omega)).1 (k * 6 + 3)
  obtain ⟨Aa, ca, rfl, hca, hcm⟩ := ra.form
  have hgl := (h.base_le (by omega)).2
  have hgb := (h.base_le (by omega)).1
  have hsm : ∀ a ∈ (at_ f (k : Int)).attrs, a.name.size ≤ maxLen ∧ a.value.size ≤ maxLen := Its.attrs_small (ra.rd)
  have hde := fun (w' : World) (B : Nat) (v : Value) (ho : w'.ownsRow B 59 2 v (at_ f (k : Int)).attrs.length (Its.atCells (at_ f (k : Int)).attrs)) => deleteA_calls w' B v (at_ f (k : Int)).attrs j ho hj (by omega) hsm
  have fin : ∀ (w8 : World) (v' : Value), Below w.heap.size w w8 → RdS attrS 2 (fun b => w.heap.size ≤ b) w8 v' ((at_ f (k : Int)).attrs.eraseIdx j) →
      DoPost base wk o (f.set k { at_ f (k : Int) with attrs := delA (at_ f (k : Int)).attrs o.name }) w (.returned (.tuple #[])) (w8.setCell ⟨g, k * 6 + 3, none⟩ v') := by
    intro w8 v' hb8 hr
    rw [hdel]
    exact ⟨rfl, g, c, attrs_put h hkl v' _ (fun b hb hne => (Below.heap_setCell _ _ _ _ hne).trans (hb8.block b hb)) (setCell_block (hb8.block g hgl)) (by have := hb8.size; simp [World.setCell]; exact this) (hr.keep (fun b hb _ => Below.heap_setCell _ _ _ _ (fun e => by have h1 : w.heap.size ≤ b := hb; have e2 : b = g := e; omega)) (by simp [World.setCell]) (fun b x _ => x)), (hb8.mono hbs).setCell hgb _⟩
  have Ha := Lib.hid ha; have Hn := Lib.hid hn; have Hcl := Lib.hid hcl; have Hc3 := Lib.hid hc3; have Hf3 := Lib.hid hf3; have Hde := Lib.hid hde; have Fin := Lib.hid fin
  have hw1 : IntKind.i64.wrap ((j : Int) + 1) = (j : Int) + 1 := by rw [IntKind.wrap_i64]; omega
  clear ha hn hcl hc3 hf3 hde fin h hk hi hi' hfa hjn hix hdel hh ra hsm k3
  go_enter Tryz.func124, Tryz.ntmps124
  go_wp2_with (first
    | (go_at_call 121; ((with_reducible refine (Ha.out).mono ?_); rintro e w2 ⟨rfl, hb2⟩; have hb3 := hb2; have Hb2 := Lib.hid hb2; clear hb2; have hn3 := Hn.out _ hb3; have HN := Lib.hid hn3; clear hn3; have HB := Lib.hid hb3; clear hb3))
    | (go_at_call 114; ((with_reducible refine (HN.out).mono ?_); rintro e w3 ⟨rfl, hb3'⟩; have hb3 := bthen HB.out hb3'; clear hb3'; have hn3 := Hn.out _ hb3; have p3 := Hc3.out _ hb3; clear HN HB; have HN := Lib.hid hn3; clear hn3; have HB := Lib.hid hb3; clear hb3))
    | (go_at_call 126; ((with_reducible refine (Hcl.out _ HB.out).mono ?_); rintro e w6 ⟨v6, rfl, ho6, hb6⟩; have hs6 := HB.out.size; have Ho6 := Lib.hid ho6; have Hb6 := Lib.hid (bthen HB.out hb6); clear ho6 hb6))
    | (go_at_call 125; ((with_reducible refine (Hde.out _ _ _ Ho6.out).mono ?_); rintro e w7 ⟨v7, rfl, hr7, hb7⟩; obtain ⟨A7, c7, rfl, _, _⟩ := hr7.form; have hb8 := Hb6.out.trans (hb7.mono hs6); have q3 := Hc3.out _ hb8; have q3f := Hf3.out _ hb8; have Hr7 := Lib.hid (hr7.keep (S' := fun b => w.heap.size ≤ b) (fun _ _ _ => rfl) (Nat.le_refl _) (fun b x _ => Nat.le_trans hs6 x)); have Hb7 := Lib.hid hb8; clear hr7 hb7 hb8)))
  first | go_end0 | refine bodyPost_ret (results_none rfl _ _ _) rfl ?_
  exact Fin.out _ _ Hb7.out Hr7.out
end
end Go.Proofs.YthdenkkllpkplaaGreat.Work
end
section
/- The kit's library contracts, laid at this program in plain words (wip/shelfg.py). -/
namespace Go.Proofs
open Go.Shelf
def Tryz.laysIns_ren : Go.Shelf.Ren := ⟨fun | 21 => 115 | 27 => 173 | 28 => 174 | 35 => 193 | 39 => 143 | n => n, fun | 22 => 53 | 3 => 3 | 4 => 4 | 0 => 0 | n => n, fun | n => n⟩
theorem Tryz.laysIns : Go.Proofs.Lays2.n21 Tryz.prog Tryz.laysIns_ren := {
  mixed := by kernel_rfl
  f21 := Tryz.func115.trans (congrArg some (by kernel_rfl))
  f27 := Tryz.func173.trans (congrArg some (by kernel_rfl))
  f28 := Tryz.func174.trans (congrArg some (by kernel_rfl))
  f35 := Tryz.func193.trans (congrArg some (by kernel_rfl))
  f39 := Tryz.func143.trans (congrArg some (by kernel_rfl))
  t0 := Tryz.underlying0
  a0 := Tryz.isAgg0
  z0 := Tryz.sizeOf0
  v0 := Tryz.zeroValue0
  t3 := Tryz.underlying3
  a3 := Tryz.isAgg3
  z3 := Tryz.sizeOf3
  v3 := Tryz.zeroValue3
  t4 := Tryz.underlying4
  a4 := Tryz.isAgg4
  z4 := Tryz.sizeOf4
  v4 := Tryz.zeroValue4
  t22 := Tryz.underlying53
  a22 := Tryz.isAgg53
  z22 := Tryz.sizeOf53
  v22 := Tryz.zeroValue53
  i3 := by kernel_rfl }
end Go.Proofs
end
section
/- slices.Insert of one number into a row of one's own. -/
namespace Go.Proofs.YthdenkkllpkplaaGreat.Work
open Go Go.RowKit Go.Proofs.YthdenkkllpkplaaGreat.Seq Go.Proofs.YthdenkkllpkplaaGreat.WS Go.Proofs.YthdenkkllpkplaaGreat.FS Go.Proofs.YthdenkkllpkplaaGreat.Mem Go.Proofs.YthdenkkllpkplaaGreat.Rd Go.Proofs.YthdenkkllpkplaaGreat.Shapes Go.Proofs.YthdenkkllpkplaaGreat.Word Go.Proofs.YthdenkkllpkplaaGreat.FFam Go.Proofs.YthdenkkllpkplaaGreat.OwnF
set_option linter.unusedVariables false
set_option linter.unusedSimpArgs false

theorem insertL_length {l : List Int} {i : Nat} (x : Int) (hi : i ≤ l.length) : (insertL l i x).length = l.length + 1 := by
  unfold insertL
  simp
  omega
theorem insertL_get {l : List Int} {i : Nat} {x : Int} (hi : i ≤ l.length) {j : Nat} (hj : j < (insertL l i x).length) : (insertL l i x)[j]? = if j < i then l[j]? else if j = i then some x else l[j - 1]? := by
  unfold insertL
  have hlt : (l.take i).length = i := by simp; omega
  rw [List.getElem?_append, hlt]
  split
  · rw [List.getElem?_take, if_pos (by assumption)]
  · split
    · rename_i h1 h2
      subst h2
      rw [Nat.sub_self]
      rfl
    · rename_i h1 h2
      rw [show j - i = (j - i - 1) + 1 by omega, List.getElem?_cons_succ, List.getElem?_drop, show i + (j - i - 1) = j - 1 by omega]
theorem RdS_ints {S : Nat → Prop} {w : World} {b c : Nat} {l : List Int} (n : Nat) (hn : l.length = n) (hc : l.length ≤ c) (hm : c ≤ maxLen) (hS : S b) (hlt : b < w.heap.size) (hcell : ∀ j (hj : j < l.length), w.cell? ⟨b, j, none⟩ = some (.int .i64 l[j])) (hw : ∀ y ∈ l, (Lit.int .i64 y).wf = true) :
    RdS intS 1 S w (.slice (some ⟨b, 0, none⟩) n c) l := by
  subst hn
  refine ⟨_, _, rfl, hc, hm, fun h1 => ⟨b, 0, rfl, hS, hlt, fun i hi => ⟨[.int .i64 l[i]], rfl, fun j u hj => ?_, rfl, hw _ (List.getElem_mem hi)⟩⟩⟩
  have hj0 : j = 0 := by have := (List.getElem?_eq_some_iff.1 hj).1; simp at this; omega
  subst hj0
  simp at hj
  subst hj
  rw [show 0 + i * 1 + 0 = i by omega]
  exact hcell i hi
theorem insertL_mem {l : List Int} {i : Nat} {x : Int} (hw : ∀ y ∈ l, (Lit.int .i64 y).wf = true) (hx : (Lit.int .i64 x).wf = true) : ∀ y ∈ insertL l i x, (Lit.int .i64 y).wf = true := by
  intro y hy
  unfold insertL at hy
  rw [List.mem_append, List.mem_cons] at hy
  rcases hy with h | rfl | h
  · exact hw y (List.mem_of_mem_take h)
  · exact hx
  · exact hw y (List.mem_of_mem_drop h)
theorem insertL_cells {w : World} {b : Nat} {l : List Int} {i : Nat} {x : Int} (hi : i ≤ l.length) (h1 : ∀ j (hj : j < l.length), j < i → w.cell? ⟨b, j, none⟩ = some (.int .i64 l[j])) (h2 : w.cell? ⟨b, i, none⟩ = some (.int .i64 x)) (h3 : ∀ j (hj : j < l.length), i ≤ j → w.cell? ⟨b, j + 1, none⟩ = some (.int .i64 l[j])) :
    ∀ j (hj : j < (insertL l i x).length), w.cell? ⟨b, j, none⟩ = some (.int .i64 (insertL l i x)[j]) := by
  intro j hj
  have hg := insertL_get hi hj
  have hl := insertL_length x hi
  rw [List.getElem?_eq_getElem hj] at hg
  split at hg
  · rename_i hji
    rw [List.getElem?_eq_getElem (by omega)] at hg
    injection hg with hg
    rw [hg]
    exact h1 j (by omega) hji
  · split at hg
    · rename_i _ e
      injection hg with hg
      rw [hg, e]
      exact h2
    · rename_i a e
      rw [List.getElem?_eq_getElem (by omega)] at hg
      injection hg with hg
      rw [hg]
      have := h3 (j - 1) (by omega) (by omega)
      rwa [show j - 1 + 1 = j by omega] at this
theorem ints_at {w : World} {b : Nat} {l : List Int} (h : ∀ j u, (l.map (Value.int .i64))[j]? = some u → w.cell? ⟨b, j, none⟩ = some u) {j : Nat} (hj : j < l.length) : w.cell? ⟨b, j, none⟩ = some (.int .i64 l[j]) := h j _ (by simp [hj])
theorem one_ints (l : List Int) : ∀ v ∈ l.map (Value.int .i64), v.oneCell' = true := by
  intro v hv
  obtain ⟨x, _, rfl⟩ := List.mem_map.1 hv
  rfl
set_option maxHeartbeats 4000000 in
theorem insertI_calls (w : World) (B vb : Nat) (T : TypeId) (v : Value) (l : List Int) (i : Nat) (x : Int) (h : w.ownsRow B 3 1 v l.length (l.map (Value.int .i64))) (hi : i ≤ l.length) (hl : l.length ≤ 1000) (hw : ∀ y ∈ l, (Lit.int .i64 y).wf = true) (hx : (Lit.int .i64 x).wf = true)
    (hvb : w.heap[vb]? = some (.cells #[.int .i64 x] T (0, 0))) (hne : v.ownBlock ≠ some vb) (hB : B ≤ w.heap.size) :
    Calls Tryz.prog 115 #[v, .int .i64 i, .slice (some ⟨vb, 0, none⟩) 1 1] w fun e w' => ∃ v', e = .returned v' ∧ RdS intS 1 (fun b => B ≤ b) w' v' (insertL l i x) ∧ Below B w w' := by
  have hlen := insertL_length x hi
  have hwm := insertL_mem (i := i) hw hx
  have hvs : ∀ j u, [Value.int .i64 x][j]? = some u → w.cell? ⟨vb, 0 + j, none⟩ = some u := fun j u hj => by
    have hj0 : j = 0 := by have := (List.getElem?_eq_some_iff.1 hj).1; simp at this; omega
    subst hj0
    simp at hj
    subst hj
    exact (cell_of_row _ _ _ _ _ _ hvb).trans rfl
  have hvo : ∀ u ∈ [Value.int .i64 x], u.oneCell' = true := fun u hu => by
    simp at hu
    subst hu
    rfl
  have hlt := h.lt
  have hcells := fun (g : Nat) (e : v.ownBlock = some g) => h.cells (g := g) e
  have hgm := grownCap_le_maxLen w (l.length + 1)
  have hgg := grownCap_ge w (l.length + 1)
  -- at the end, no room
  have grow : ∀ (base : Option Addr) (c : Nat), l.length ≤ c → c < l.length + 1 → i = l.length → (base = none → l.length = 0) → (∀ a, base = some a → ∀ j u, (l.map (Value.int .i64))[j]? = some u → w.cell? (a.add j) = some u) →
      Calls Tryz.prog 115 #[.slice base l.length c, .int .i64 i, .slice (some ⟨vb, 0, none⟩) 1 1] w fun e w' => ∃ v', e = .returned v' ∧ RdS intS 1 (fun b => B ≤ b) w' v' (insertL l i x) ∧ Below B w w' := by
    intro base c hnc hroom hin hnil hcs
    subst hin
    refine (Any2.slices_Insert_int_end_grow Tryz.laysIns base l.length c vb 0 1 1 (l.map (Value.int .i64)) [.int .i64 x] w (by decide) hnc hroom (by omega) (by simp) rfl hnil hcs hvs hvo).mono ?_
    rintro e w' ⟨rfl, rfl⟩
    refine ⟨_, rfl, RdS_ints _ hlen (by rw [hlen]; exact hgg _ _) (hgm _ _ (by simp only [maxLen]; omega)) hB (by simp) ?_ hwm, (drewN_below (Below.refl B w) 1).alloc hB _⟩
    have hrow := World.alloc_heap_new w.drew (.cells ((l.map (Value.int .i64) ++ [Value.int .i64 x]).toArray ++ Builtin.zeroCells (Value.int .i64 0).cells (grownCap w (l.length + 1) c 3 - (l.length + 1))) 3 (0, 0))
    refine insertL_cells (Nat.le_refl _) (fun j hj _ => ?_) ?_ (fun j hj hij => by omega)
    · refine (cell_of_row _ _ _ _ _ _ hrow).trans ?_
      rw [Array.getElem?_append, if_pos (by simp; omega), List.getElem?_toArray, List.getElem?_append, if_pos (by simpa using hj)]
      simp [hj]
    · refine (cell_of_row _ _ _ _ _ _ hrow).trans ?_
      rw [Array.getElem?_append, if_pos (by simp), List.getElem?_toArray, List.getElem?_append, if_neg (by simp)]
      simp
  rcases h.2 with ⟨rfl, hn⟩ | ⟨g, cap, cur, rfl, hgb, hgh, hgc, hcm, hcs, htk⟩
  · have := grow none 0 (by omega) (by omega) (by omega) (fun _ => hn) (fun a e => by cases e)
    rwa [hn] at this
  have hg := (hlt g rfl).2
  have hcg : ∀ j u, (l.map (Value.int .i64))[j]? = some u → w.cell? ⟨g, j, none⟩ = some u := fun j u hj => by
    have := hcells g rfl j u hj
    rwa [Addr.add_lit, Nat.zero_add] at this
  have hcg0 : ∀ j u, (l.map (Value.int .i64))[j]? = some u → w.cell? ⟨g, 0 + j, none⟩ = some u := fun j u hj => by rw [Nat.zero_add]; exact hcg j u hj
  have hspare : ∀ j, j < cap → (w.cell? ⟨g, j, none⟩).isSome = true := fun j hj => by
    rw [cell_of_row _ _ _ _ _ _ hgh, Array.getElem?_eq_getElem (by omega)]
    rfl
  have hfz : ∀ j, w.frozen? ⟨g, j, none⟩ = false := free_of hgh
  by_cases hin : i = l.length
  · by_cases hroom : l.length + 1 ≤ cap
    · subst hin
      refine (Any2.slices_Insert_int_end_room Tryz.laysIns g 0 l.length cap vb 0 1 1 [.int .i64 x] w (by decide) hroom (by simp only [maxLen] at hcm; omega) rfl (fun j hj => hspare _ (by omega)) (fun j hj => hfz _) hvs hvo).mono ?_
      rintro e w' ⟨rfl, rfl⟩
      have hB' := below_setCells hgb [.int .i64 x] (0 + l.length) w
      refine ⟨_, rfl, RdS_ints _ hlen (by rw [hlen]; exact hroom) hcm hgb (Nat.lt_of_lt_of_le hg hB'.size) ?_ hwm, hB'⟩
      refine insertL_cells (Nat.le_refl _) (fun j hj _ => ?_) ?_ (fun j hj hij => by omega)
      · rw [World.cell?_setCells_out _ _ _ _ _ (fun _ _ => Or.inl (by show j < 0 + l.length; omega))]
        exact ints_at hcg hj
      · have := World.cell?_setCells_in g [.int .i64 x] (0 + l.length) w (fun j hj => hspare _ (by simp at hj; omega)) 0 (by simp)
        simpa using this
    · exact grow (some ⟨g, 0, none⟩) cap hgc (by omega) hin (fun e => by cases e) (fun a e => by cases e; exact hcells g rfl)
  · have hilt : i < l.length := by omega
    by_cases hroom : l.length + 1 ≤ cap
    · have hvg : vb ≠ g := fun e => hne (by simp [Value.ownBlock, e])
      refine (Any2.slices_Insert_int_shift Tryz.laysIns g 0 l.length cap i vb 0 1 1 (l.map (Value.int .i64)) [.int .i64 x] w hilt (by decide) hroom (by simp only [maxLen] at hcm; omega) hvg (by simp) rfl hcg0 (fun j hj => hspare _ (by omega)) (fun j hj => hfz _) hvs (one_ints l) hvo
        T 3 1 cur.size (by simp [World.shape?, hvb]) (by simp [World.shape?, hgh]) (by omega) (free_of hvb _) (free_of hvb _)).mono ?_
      rintro e w' ⟨rfl, rfl⟩
      have hB1 := (drewN_below (Below.refl B w) 1).trans (below_setCells hgb ((l.map (Value.int .i64)).drop i) (0 + (i + 1)) w.drew)
      have hB' := hB1.trans (below_setCells hgb [.int .i64 x] (0 + i) _)
      have hsome1 : ∀ j, j < cap → ((w.drew.setCells g (0 + (i + 1)) ((l.map (Value.int .i64)).drop i)).cell? ⟨g, j, none⟩).isSome = true := fun j hj =>
        isSome_setCells g ((l.map (Value.int .i64)).drop i) (0 + (i + 1)) w.drew (fun k hk => hspare _ (by rw [List.length_drop, List.length_map] at hk; omega)) _ (hspare j hj)
      refine ⟨_, rfl, RdS_ints _ hlen (by rw [hlen]; exact hroom) hcm hgb (Nat.lt_of_lt_of_le hg hB'.size) ?_ hwm, hB'⟩
      refine insertL_cells hi (fun j hj hji => ?_) ?_ (fun j hj hij => ?_)
      · rw [World.cell?_setCells_out _ _ _ _ _ (fun _ _ => Or.inl (by show j < 0 + i; omega)), World.cell?_setCells_out _ _ _ _ _ (fun _ _ => Or.inl (by show j < 0 + (i + 1); omega))]
        exact ints_at hcg hj
      · have := World.cell?_setCells_in g [.int .i64 x] (0 + i) _ (fun j hj => hsome1 _ (by simp at hj; omega)) 0 (by simp)
        simpa using this
      · rw [World.cell?_setCells_out _ _ _ _ _ (fun _ _ => Or.inr (by show 0 + i + 1 ≤ j + 1; omega))]
        have := World.cell?_setCells_in g ((l.map (Value.int .i64)).drop i) (0 + (i + 1)) w.drew (fun k hk => hspare _ (by simp at hk; omega)) (j - i) (by simp; omega)
        rw [show 0 + (i + 1) + (j - i) = j + 1 by omega] at this
        rw [this]
        simp [show i + (j - i) = j by omega]
    · have hcon := Any2.slices_Insert_int_grow Tryz.laysIns g 0 l.length cap i vb 0 1 1 (l.map (Value.int .i64)) [.int .i64 x] w hilt (by decide) hgc (by omega) (by omega) (by simp) rfl hcg0 hvs (one_ints l) hvo
      rw [show Tryz.laysIns_ren.t 3 = 3 from rfl] at hcon
      refine hcon.mono ?_
      rintro e w' ⟨rfl, rfl⟩
      generalize hZ : Builtin.zeroCells (Value.int .i64 0).cells (grownCap w (l.length + 1) cap 3 - (l.length + 1)) = Z
      have hz : (Builtin.zeroCells (Value.int .i64 0).cells (l.length + 1 - i)).size = l.length + 1 - i := by
        have := size_zeroCells (Value.int .i64 0).cells (l.length + 1 - i)
        simpa [Value.cells] using this
      generalize hY : Builtin.zeroCells (Value.int .i64 0).cells (l.length + 1 - i) = Y at hz ⊢
      obtain ⟨w1, hw1⟩ : ∃ w1, w1 = w.alloc (.cells (((l.map (Value.int .i64)).take i).toArray ++ Y ++ Z) 3) := ⟨_, rfl⟩
      have hrow : w1.heap[w.heap.size]? = some (.cells (((l.map (Value.int .i64)).take i).toArray ++ Y ++ Z) 3 (0, 0)) := by rw [hw1]; exact World.alloc_heap_new w _
      have hB1 : Below B w w1 := by rw [hw1]; exact (Below.refl B w).alloc hB _
      rw [← hw1]
      have hB2 := (hB1.trans (drewN_below (Below.refl B w1) 1)).trans (below_setCells hB [.int .i64 x] i w1.drew)
      have hB' := (hB2.trans (drewN_below (Below.refl B _) 1)).trans (below_setCells hB ((l.map (Value.int .i64)).drop i) (i + 1) _)
      have hsp1 : ∀ j, j < l.length + 1 → (w1.cell? ⟨w.heap.size, j, none⟩).isSome = true := fun j hj => by
        rw [cell_of_row _ _ _ _ _ _ hrow, Array.getElem?_eq_getElem (by simp [hz]; omega)]
        rfl
      have hsp2 : ∀ j, j < l.length + 1 → ((w1.drew.setCells w.heap.size i [.int .i64 x]).cell? ⟨w.heap.size, j, none⟩).isSome = true := fun j hj =>
        isSome_setCells w.heap.size [Value.int .i64 x] i w1.drew (fun k hk => hsp1 _ (by simp at hk; omega)) _ (hsp1 j hj)
      have hlt' : w.heap.size < w1.heap.size := by rw [hw1]; simp
      refine ⟨_, rfl, RdS_ints _ hlen (by rw [hlen]; exact hgg _ _) (hgm _ _ (by simp only [maxLen]; omega)) hB (by have h1 := hB2.size; have h2 := hB'.size; have h3 := hB1.size; have h4 := ((drewN_below (Below.refl B w1) 1).trans (below_setCells hB [.int .i64 x] i w1.drew)).size; have h5 := (below_setCells hB ((l.map (Value.int .i64)).drop i) (i + 1) (w1.drew.setCells w.heap.size i [.int .i64 x]).drew).size; exact Nat.lt_of_lt_of_le hlt' (Nat.le_trans h4 h5)) ?_ hwm, hB'⟩
      refine insertL_cells hi (fun j hj hji => ?_) ?_ (fun j hj hij => ?_)
      · rw [World.cell?_setCells_out _ _ _ _ _ (fun _ _ => Or.inl (by show j < i + 1; omega))]
        refine (World.cell?_setCells_out _ _ _ w1.drew _ (fun _ _ => Or.inl (by show j < i; omega))).trans ?_
        refine (cell_of_row _ _ _ _ _ _ hrow).trans ?_
        rw [Array.getElem?_append, if_pos (by simp; omega), Array.getElem?_append, if_pos (by simp; omega), List.getElem?_toArray, List.getElem?_take, if_pos hji]
        simp [hj]
      · rw [World.cell?_setCells_out _ _ _ _ _ (fun _ _ => Or.inl (by show i < i + 1; omega))]
        have := World.cell?_setCells_in w.heap.size [.int .i64 x] i w1.drew (fun j hj => hsp1 _ (by simp at hj; omega)) 0 (by simp)
        simpa using this
      · have := World.cell?_setCells_in w.heap.size ((l.map (Value.int .i64)).drop i) (i + 1) (w1.drew.setCells w.heap.size i [.int .i64 x]).drew (fun k hk => hsp2 _ (by simp at hk; omega)) (j - i) (by simp; omega)
        rw [show i + 1 + (j - i) = j + 1 by omega] at this
        rw [this]
        simp [show i + (j - i) = j by omega]
end Go.Proofs.YthdenkkllpkplaaGreat.Work
end
