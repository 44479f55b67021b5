import Derived.Test.YtmbhkkophkccbaaGreatProg
import Derived.Tactics
import Derived.KernelRfl
import Derived.Shelf.Small.Utf8
import Derived.Shelf.Small.Strs
import Derived.Shelf.Strings.Runes
import Derived.Shelf.Strings.IndexAny
import Derived.Shelf.Strings.AsciiSet
import Derived.Shelf.Strings.IndexAnyAll
import Derived.Test.YtmbhkkophkccbaaGreatC01
section
namespace Go.Proofs.YtmbhkkophkccbaaGreat.Shapes
open Go Go.RowKit Go.Deep Rd
open Go.Proofs.YtmbhkkophkccbaaGreat.FS (Av Nd Fo)
set_option linter.unusedVariables false

def attrE : Elem Av := fun _ _ cs a => cs = [.string a.name, .string a.value] ∧ a.name.size ≤ maxLen ∧ a.value.size ≤ maxLen
theorem attrE_keeps : attrE.Keeps := fun _ _ _ _ _ _ h _ _ => h
def nodeE : Elem Nd := fun B w cs n => ∃ va vk, cs = [.int .i64 n.kind, .string n.name, .string n.text, va, .int .i64 n.parent, vk] ∧ RdL attrE 2 B w va n.attrs ∧ RdL (intE .i64) 1 B w vk n.kids ∧
 n.name.size ≤ maxLen ∧ n.text.size ≤ maxLen ∧ (Lit.int .i64 n.kind).wf = true ∧ (Lit.int .i64 n.parent).wf = true
theorem nodeE_keeps : nodeE.Keeps := fun B B' w w' cs n ⟨va, vk, h1, h2, h3, h4⟩ hb hB => ⟨va, vk, h1, h2.keep attrE_keeps hb hB, h3.keep (intE_keeps _) hb hB, h4⟩
abbrev RdF := RdL nodeE 6

section
variable {H : Type} {enc : TypeId × Value → H} {P : Program} {w : World} {base : Nat} {spare : Nat → Bool} {held : Bool}
theorem opens_attr {e : TypeId} {f0 f1 : Field} (hs : P.underlying e = some (.struct #[f0, f1])) (hone : oneCellFields P #[f0, f1] = true) (hC : P.cellsOf e = 2) (h0 : P.underlying f0.type = some .string) (h1 : P.underlying f1.type = some .string) :
  Opens enc P w base spare held e attrE := fun fuel cs x h => by
 obtain ⟨xs, n, _, hx, hlc, hlen, hg⟩ := DataW.trod_struct hs h
 rw [hC] at hlc
 match cs, hlc with
 | [c0, c1], _ =>
  obtain ⟨o0, k0⟩ := hone_of hone 0 f0 rfl
  obtain ⟨o1, k1⟩ := hone_of hone 1 f1 rfl
  match xs, hlen with
  | [y0, y1], _ =>
   have g0 := hg 0 f0 rfl
   have g1 := hg 1 f1 rfl
   simp [o0, k0] at g0
   simp [o1, k1] at g1
   obtain ⟨s0, e0, _, m0⟩ := DataW.trod_string h0 g0
   obtain ⟨s1, e1, _, m1⟩ := DataW.trod_string h1 g1
   simp at e0 e1
   exact ⟨⟨s0, s1⟩, by rw [e0, e1], m0, m1⟩
theorem opens_node {e ea ek : TypeId} {f0 f1 f2 f3 f4 f5 : Field} (hs : P.underlying e = some (.struct #[f0, f1, f2, f3, f4, f5])) (hone : oneCellFields P #[f0, f1, f2, f3, f4, f5] = true) (hC : P.cellsOf e = 6)
  (h0 : P.underlying f0.type = some (.int .i64)) (h1 : P.underlying f1.type = some .string) (h2 : P.underlying f2.type = some .string) (h3 : P.underlying f3.type = some (.slice ea)) (h4 : P.underlying f4.type = some (.int .i64)) (h5 : P.underlying f5.type = some (.slice ek))
  (hea : P.cellsOf ea = 2) (hoa : Opens enc P w base spare held ea attrE) (hek : P.cellsOf ek = 1) (hki : P.underlying ek = some (.int .i64)) :
  Opens enc P w base spare held e nodeE := fun fuel cs x h => by
 obtain ⟨xs, n, _, hx, hlc, hlen, hg⟩ := DataW.trod_struct hs h
 rw [hC] at hlc
 match cs, hlc with
 | [c0, c1, c2, c3, c4, c5], _ =>
  obtain ⟨o0, k0⟩ := hone_of hone 0 f0 rfl
  obtain ⟨o1, k1⟩ := hone_of hone 1 f1 rfl
  obtain ⟨o2, k2⟩ := hone_of hone 2 f2 rfl
  obtain ⟨o3, k3⟩ := hone_of hone 3 f3 rfl
  obtain ⟨o4, k4⟩ := hone_of hone 4 f4 rfl
  obtain ⟨o5, k5⟩ := hone_of hone 5 f5 rfl
  match xs, hlen with
  | [y0, y1, y2, y3, y4, y5], _ =>
   have g0 := hg 0 f0 rfl
   have g1 := hg 1 f1 rfl
   have g2 := hg 2 f2 rfl
   have g3 := hg 3 f3 rfl
   have g4 := hg 4 f4 rfl
   have g5 := hg 5 f5 rfl
   simp [o0, k0] at g0
   simp [o1, k1] at g1
   simp [o2, k2] at g2
   simp [o3, k3] at g3
   simp [o4, k4] at g4
   simp [o5, k5] at g5
   obtain ⟨z0, e0, _, m0⟩ := DataW.trod_int h0 g0
   obtain ⟨z1, e1, _, m1⟩ := DataW.trod_string h1 g1
   obtain ⟨z2, e2, _, m2⟩ := DataW.trod_string h2 g2
   obtain ⟨l3, v3, e3, m3⟩ := opens_slice 2 h3 hea (by omega) hoa _ _ _ g3
   obtain ⟨z4, e4, _, m4⟩ := DataW.trod_int h4 g4
   obtain ⟨l5, v5, e5, m5⟩ := opens_slice 1 h5 hek (by omega) (opens_int hki) _ _ _ g5
   simp at e0 e1 e2 e3 e4 e5
   exact ⟨⟨z0, z1, z2, l3, z4, l5⟩, v3, v5, by rw [e0, e1, e2, e3, e4, e5], m3, m5, m1, m2, m0, m4⟩
theorem opens_forest_Node {enc : TypeId × Value → H} {w : World} : Opens enc Tryz.prog w base spare held 50 nodeE :=
 opens_node Tryz.underlying50 (by kernel_rfl) (by kernel_rfl) Tryz.underlying3 Tryz.underlying9 Tryz.underlying9 Tryz.underlying48 Tryz.underlying3 Tryz.underlying34 (by kernel_rfl)
  (opens_attr Tryz.underlying112 (by kernel_rfl) (by kernel_rfl) Tryz.underlying9 Tryz.underlying9) (by kernel_rfl) Tryz.underlying3
end
end Go.Proofs.YtmbhkkophkccbaaGreat.Shapes
end
section
namespace Go.Proofs.YtmbhkkophkccbaaGreat.FS
set_option linter.unusedVariables false
def belowP (f : Fo) (top id : Int) : Prop := 0 ≤ top ∧ ∃ m, Reach f m id top
noncomputable def belowB (f : Fo) (top id : Int) : Bool := mayB f && isNode f id && @decide (belowP f top id) (Classical.propDecidable _)
def topsL (f : Fo) : List Int := ((List.range f.length).filter (fun (i : Nat) => (at_ f i).parent == -1)).map (fun (i : Nat) => (i : Int))
theorem belowP_step {f : Fo} {top j : Int} (h0 : 0 ≤ j) (hne : j ≠ top) : belowP f top j ↔ belowP f top (at_ f j).parent := by
 constructor
 ·rintro ⟨h, m, hm⟩
  cases m with
  | zero => exact absurd hm hne
  | succ m => exact ⟨h, m, hm.2⟩
 ·rintro ⟨h, m, hm⟩
  exact ⟨h, m + 1, h0, hm⟩
theorem belowP_end {f : Fo} {top : Int} (hne : (-1 : Int) ≠ top) : ¬ belowP f top (-1) := by
 rintro ⟨h, m, hm⟩
 cases m with
 | zero => exact hne hm
 | succ m => have : (0 : Int) ≤ -1 := hm.1; omega
theorem below_eq {f : Fo} {top id : Int} (hm : mayB f = true) (hn : isNode f id = true) {b : Bool} (h : belowP f top id ↔ b = true) : belowB f top id = b := by
 unfold belowB
 rw [hm, hn]
 cases b with
 | false =>
  have : ¬ belowP f top id := fun hp => by have := h.1 hp; cases this
  rw [@decide_eq_false _ (Classical.propDecidable _) this]; rfl
 | true => rw [@decide_eq_true _ (Classical.propDecidable _) (h.2 rfl)]; rfl
theorem may_climbs {f : Fo} (h : mayB f = true) : climbsP f := by
 unfold mayB at h
 simp only [Bool.and_eq_true] at h
 exact climbs_iff.1 h.2
theorem may_family {f : Fo} (h : mayB f = true) : familyB f = true := by
 unfold mayB at h
 simp only [Bool.and_eq_true] at h
 exact h.1.2
theorem may_len {f : Fo} (h : mayB f = true) : 1 ≤ f.length ∧ f.length ≤ 60 := by
 unfold mayB at h
 simp only [Bool.and_eq_true, decide_eq_true_eq] at h
 exact ⟨h.1.1.1.1.1, h.1.1.1.1.2⟩
end Go.Proofs.YtmbhkkophkccbaaGreat.FS
end
section
namespace Go.Proofs.YtmbhkkophkccbaaGreat.FS

set_option linter.unusedVariables false

theorem atN {f : Fo} {i : Nat} (hi : i < f.length) : at_ f (i : Int) = f[i] := by
 unfold at_
 rw [if_pos (by omega), Int.toNat_natCast, List.getD_eq_getElem?_getD, List.getElem?_eq_getElem hi]
 rfl
theorem node_iff (f : Fo) (k : Int) : isNode f k = true ↔ 0 ≤ k ∧ k < f.length := by unfold isNode; simp
theorem node_nat {f : Fo} {k : Int} (h : isNode f k = true) : ∃ n : Nat, k = n ∧ n < f.length := by
 rw [node_iff] at h
 exact ⟨k.toNat, by omega, by omega⟩

theorem fam_kids {f : Fo} (h : familyB f = true) {i k : Int} (hi : isNode f i = true) (hk : k ∈ (at_ f i).kids) : isNode f k = true ∧ (at_ f k).parent = i := by
 obtain ⟨n, rfl, hn⟩ := node_nat hi
 unfold familyB at h
 rw [Bool.and_eq_true, List.all_eq_true] at h
 have := h.1 n (List.mem_range.2 hn)
 unfold kidsB at this
 rw [Bool.and_eq_true, List.all_eq_true] at this
 have := this.1 k hk
 rw [Bool.and_eq_true, decide_eq_true_eq] at this
 exact this
theorem fam_parent {f : Fo} (h : familyB f = true) {i : Int} (hi : isNode f i = true) : -1 ≤ (at_ f i).parent ∧ (at_ f i).parent < f.length ∧ (0 ≤ (at_ f i).parent → known f i = 1) := by
 obtain ⟨n, rfl, hn⟩ := node_nat hi
 unfold familyB at h
 rw [Bool.and_eq_true, List.all_eq_true, List.all_eq_true] at h
 have := h.2 n (List.mem_range.2 hn)
 unfold parentB at this
 simp only [Bool.and_eq_true, Bool.or_eq_true, decide_eq_true_eq] at this
 exact ⟨this.1.1, this.1.2, fun h0 => by rcases this.2 with h | h; omega; exact h⟩
theorem sum_le_mem {α : Type} (g : α → Nat) : ∀ (l : List α) (x : α), x ∈ l → g x ≤ (l.map g).sum
 | [], x, h => by cases h
 | y :: l, x, h => by
  rw [List.map_cons, List.sum_cons]
  rcases List.mem_cons.1 h with rfl | h
  ·omega
  ·have := sum_le_mem g l x h; omega
theorem sum_pos_mem {α : Type} (g : α → Nat) : ∀ (l : List α), 0 < (l.map g).sum → ∃ x ∈ l, 0 < g x
 | [], h => by simp at h
 | y :: l, h => by
  rw [List.map_cons, List.sum_cons] at h
  by_cases h0 : 0 < g y
  ·exact ⟨y, by simp, h0⟩
  ·obtain ⟨x, hx, h1⟩ := sum_pos_mem g l (by omega)
   exact ⟨x, by simp [hx], h1⟩
theorem count_le_known {f : Fo} {i : Int} (hi : isNode f i = true) (k : Int) : (at_ f i).kids.count k ≤ known f k := by
 obtain ⟨n, rfl, hn⟩ := node_nat hi
 rw [atN hn]
 exact sum_le_mem (fun n => n.kids.count k) f f[n] (List.getElem_mem _)
theorem kids_nodup {f : Fo} (h : familyB f = true) {i : Int} (hi : isNode f i = true) : (at_ f i).kids.Nodup := by
 rw [List.nodup_iff_count]
 intro k
 by_cases hk : k ∈ (at_ f i).kids
 ·obtain ⟨h1, h2⟩ := fam_kids h hi hk
  have h3 := (fam_parent h h1).2.2
  rw [h2] at h3
  have h4 := count_le_known hi k
  have := h3 ((node_iff f i).1 hi).1
  omega
 ·rw [List.count_eq_zero_of_not_mem hk]; omega
theorem kid_of_parent {f : Fo} (h : familyB f = true) {k : Int} (hk : isNode f k = true) (h0 : 0 ≤ (at_ f k).parent) : isNode f (at_ f k).parent = true ∧ k ∈ (at_ f (at_ f k).parent).kids := by
 obtain ⟨h1, h2, h3⟩ := fam_parent h hk
 refine ⟨(node_iff _ _).2 ⟨h0, h2⟩, ?_⟩
 obtain ⟨n, hn, hc⟩ := sum_pos_mem (fun n => n.kids.count k) f (by have := h3 h0; unfold known at this; omega)
 obtain ⟨j, hj, rfl⟩ := List.mem_iff_getElem.1 hn
 have hjn : isNode f (j : Int) = true := (node_iff _ _).2 ⟨by omega, by omega⟩
 have hm : k ∈ (at_ f (j : Int)).kids := by rw [atN hj]; exact List.count_pos_iff.1 hc
 rw [(fam_kids h hjn hm).2]
 exact hm

theorem Reach.trans {f : Fo} : ∀ {m n : Nat} {i j k : Int}, Reach f m i j → Reach f n j k → Reach f (m + n) i k
 | 0, n, i, j, k, h, g => by cases h; rw [Nat.zero_add]; exact g
 | m + 1, n, i, j, k, h, g => by rw [show m + 1 + n = (m + n) + 1 by omega]; exact ⟨h.1, Reach.trans h.2 g⟩
def Deep (f : Fo) (n : Nat) (i : Int) : Prop := ∀ j m, isNode f j = true → Reach f m j i → m < n
theorem Deep.mono {f : Fo} {n n' : Nat} {i : Int} (h : Deep f n i) (hn : n ≤ n') : Deep f n' i := fun j m hj hr => Nat.lt_of_lt_of_le (h j m hj hr) hn
theorem Deep.zero {f : Fo} {i : Int} (hi : isNode f i = true) : ¬ Deep f 0 i := fun h => by have := h i 0 hi rfl; omega
theorem Deep.kid {f : Fo} {n : Nat} {i k : Int} (hf : familyB f = true) (hi : isNode f i = true) (hk : k ∈ (at_ f i).kids) (h : Deep f (n + 1) i) : Deep f n k := fun j m hj hr => by
 obtain ⟨h1, h2⟩ := fam_kids hf hi hk
 have := Reach.snoc hr ((node_iff _ _).1 h1).1
 rw [h2] at this
 have := h j (m + 1) hj this
 omega
theorem up_bound {f : Fo} (h : climbsP f) : ∀ k, k ≤ f.length → ∃ M, ∀ i : Nat, i < k → ∀ n, Up f n i → n ≤ M
 | 0, _ => ⟨0, fun i hi => absurd hi (Nat.not_lt_zero _)⟩
 | k + 1, hk => by
  obtain ⟨M, hM⟩ := up_bound h k (by omega)
  obtain ⟨m, hm⟩ := h k (by omega)
  refine ⟨max M m, fun i hi n hn => ?_⟩
  by_cases e : i = k
  ·subst e
   rw [hn.unique hm]
   exact Nat.le_max_right _ _
  ·exact Nat.le_trans (hM i (by omega) n hn) (Nat.le_max_left _ _)
theorem deep_any {f : Fo} (h : climbsP f) : ∃ M, ∀ i, Deep f M i := by
 obtain ⟨M, hM⟩ := up_bound h f.length (Nat.le_refl _)
 refine ⟨M + 1, fun i j m hj hr => ?_⟩
 obtain ⟨x, rfl, hx⟩ := node_nat hj
 obtain ⟨n, hn⟩ := h x hx
 have := (hn.reach hr).1
 have := hM x hx n hn
 omega
noncomputable def fuel (f : Fo) : Nat := @dite Nat (∃ M, ∀ i, Deep f M i) (Classical.propDecidable _) (fun h => Classical.choose h) (fun _ => 0)
theorem fuel_deep {f : Fo} (h : climbsP f) (i : Int) : Deep f (fuel f) i := by
 have hd := deep_any h
 unfold fuel
 rw [dif_pos hd]
 exact Classical.choose_spec hd i

section
variable {α : Type}
def down (f : Fo) (g : Int → List α → List α) : Nat → Int → List α
 | 0, _ => []
 | n + 1, i => g i ((at_ f i).kids.flatMap (down f g n))
theorem flatMap_congr' {β : Type} {l : List β} {g h : β → List α} (e : ∀ x ∈ l, g x = h x) : l.flatMap g = l.flatMap h := by
 induction l with
 | nil => rfl
 | cons y l ih =>
  rw [List.flatMap_cons, List.flatMap_cons, e y (by simp), ih (fun x hx => e x (by simp [hx]))]
theorem down_fuel {f : Fo} (hf : familyB f = true) (g : Int → List α → List α) : ∀ {n m : Nat} {i : Int}, isNode f i = true → Deep f n i → Deep f m i → down f g n i = down f g m i
 | 0, m, i, hi, h, k => absurd h (Deep.zero hi)
 | n + 1, 0, i, hi, h, k => absurd k (Deep.zero hi)
 | n + 1, m + 1, i, hi, h, k => by
  unfold down
  rw [flatMap_congr' (fun x hx => down_fuel hf g (fam_kids hf hi hx).1 (h.kid hf hi hx) (k.kid hf hi hx))]
noncomputable def downF (f : Fo) (g : Int → List α → List α) (i : Int) : List α := down f g (fuel f) i
theorem downF_eq {f : Fo} (hf : familyB f = true) (hc : climbsP f) (g : Int → List α → List α) {i : Int} (hi : isNode f i = true) : downF f g i = g i ((at_ f i).kids.flatMap (downF f g)) := by
 have hd := fuel_deep hc i
 unfold downF
 rw [down_fuel hf g hi hd (hd.mono (Nat.le_succ _))]
 rfl
theorem downF_of {f : Fo} (hf : familyB f = true) (hc : climbsP f) (g : Int → List α → List α) {n : Nat} {i : Int} (hi : isNode f i = true) (h : Deep f n i) : down f g n i = downF f g i := down_fuel hf g hi h (fuel_deep hc i)
end
noncomputable def order (f : Fo) (i : Int) : List Int := downF f (fun i l => i :: l) i
theorem order_eq {f : Fo} (hf : familyB f = true) (hc : climbsP f) {i : Int} (hi : isNode f i = true) : order f i = i :: (at_ f i).kids.flatMap (order f) := downF_eq hf hc _ hi
theorem down_ind {f : Fo} (hf : familyB f = true) (hc : climbsP f) {P : Int → Prop} (h : ∀ i, isNode f i = true → (∀ k ∈ (at_ f i).kids, P k) → P i) {i : Int} (hi : isNode f i = true) : P i := by
 have key : ∀ n i, isNode f i = true → Deep f n i → P i := by
  intro n
  induction n with
  | zero => exact fun i hi hd => absurd hd (Deep.zero hi)
  | succ n ih => exact fun i hi hd => h i hi (fun k hk => ih k (fam_kids hf hi hk).1 (hd.kid hf hi hk))
 exact key _ i hi (fuel_deep hc i)
theorem reach_last {f : Fo} : ∀ {m : Nat} {i j : Int}, Reach f (m + 1) j i → ∃ k, Reach f m j k ∧ 0 ≤ k ∧ (at_ f k).parent = i
 | 0, i, j, h => ⟨j, rfl, h.1, h.2⟩
 | m + 1, i, j, h => by
  obtain ⟨k, h1, h2, h3⟩ := reach_last h.2
  exact ⟨k, ⟨h.1, h1⟩, h2, h3⟩
theorem reach_node {f : Fo} (hf : familyB f = true) : ∀ {m : Nat} {i j : Int}, isNode f j = true → Reach f m j i → 0 ≤ i → isNode f i = true
 | 0, i, j, hj, h, _ => by cases h; exact hj
 | m + 1, i, j, hj, h, h0 => by
  have hp := fam_parent hf hj
  by_cases hz : 0 ≤ (at_ f j).parent
  ·exact reach_node hf ((node_iff _ _).2 ⟨hz, hp.2.1⟩) h.2 h0
  ·cases m with
   | zero => have : (at_ f j).parent = i := h.2; omega
   | succ m => have := h.2.1; omega
theorem mem_order {f : Fo} (hf : familyB f = true) (hc : climbsP f) {i : Int} (hi : isNode f i = true) : ∀ j, j ∈ order f i ↔ isNode f j = true ∧ ∃ m, Reach f m j i := by
 refine down_ind hf hc (P := fun i => isNode f i = true → ∀ j, j ∈ order f i ↔ isNode f j = true ∧ ∃ m, Reach f m j i) (fun i _ ih hi j => ?_) hi hi
 rw [order_eq hf hc hi, List.mem_cons, List.mem_flatMap]
 constructor
 ·rintro (rfl | ⟨k, hk, hj⟩)
  ·exact ⟨hi, 0, rfl⟩
  ·obtain ⟨h1, h2⟩ := fam_kids hf hi hk
   obtain ⟨h3, m, hm⟩ := (ih k hk h1 j).1 hj
   refine ⟨h3, m + 1, ?_⟩
   have := Reach.snoc hm ((node_iff _ _).1 h1).1
   rwa [h2] at this
 ·rintro ⟨hj, m, hm⟩
  cases m with
  | zero => left; exact hm
  | succ m =>
   right
   obtain ⟨k, h1, h2, h3⟩ := reach_last hm
   have hk := reach_node hf hj h1 h2
   have h4 := (kid_of_parent hf hk (by rw [h3]; exact ((node_iff _ _).1 hi).1)).2
   rw [h3] at h4
   exact ⟨k, h4, (ih k h4 hk j).2 ⟨hj, m, h1⟩⟩
theorem Reach.same {f : Fo} : ∀ {m : Nat} {j i i' : Int}, Reach f m j i → Reach f m j i' → i = i'
 | 0, _, _, _, h, k => h.symm.trans k
 | m + 1, _, _, _, h, k => Reach.same h.2 k.2
theorem Reach.steps {f : Fo} (hc : climbsP f) {m n : Nat} {j i i' : Int} (hj : isNode f j = true) (h : Reach f m j i) (k : Reach f n j i') (hu : ∀ a b, Up f a i → Up f b i' → a = b) : m = n := by
 obtain ⟨x, rfl, hx⟩ := node_nat hj
 obtain ⟨N, hN⟩ := hc x hx
 obtain ⟨a1, a2⟩ := hN.reach h
 obtain ⟨b1, b2⟩ := hN.reach k
 have := hu _ _ a2 b2
 omega
theorem nodup_flatMap {α β : Type} {g : α → List β} : ∀ {l : List α}, l.Nodup → (∀ x ∈ l, (g x).Nodup) → (∀ x ∈ l, ∀ y ∈ l, ∀ z, z ∈ g x → z ∈ g y → x = y) → (l.flatMap g).Nodup
 | [], _, _, _ => by simp
 | x :: l, hn, h1, h2 => by
  rw [List.nodup_cons] at hn
  rw [List.flatMap_cons, List.nodup_append]
  refine ⟨h1 x (by simp), nodup_flatMap hn.2 (fun y hy => h1 y (by simp [hy])) (fun y hy z hz => h2 y (by simp [hy]) z (by simp [hz])), fun a ha b hb e => ?_⟩
  subst e
  obtain ⟨y, hy, hay⟩ := List.mem_flatMap.1 hb
  have := h2 x (by simp) y (by simp [hy]) a ha hay
  subst this
  exact hn.1 hy
theorem order_nodup {f : Fo} (hf : familyB f = true) (hc : climbsP f) {i : Int} (hi : isNode f i = true) : (order f i).Nodup := by
 refine down_ind hf hc (P := fun i => isNode f i = true → (order f i).Nodup) (fun i _ ih hi => ?_) hi hi
 rw [order_eq hf hc hi, List.nodup_cons]
 refine ⟨fun h => ?_, nodup_flatMap (kids_nodup hf hi) (fun k hk => ih k hk (fam_kids hf hi hk).1) (fun k hk k' hk' j hj hj' => ?_)⟩
 ·obtain ⟨k, hk, hj⟩ := List.mem_flatMap.1 h
  obtain ⟨h1, h2⟩ := fam_kids hf hi hk
  obtain ⟨_, m, hm⟩ := (mem_order hf hc h1 i).1 hj
  have := Reach.snoc hm ((node_iff _ _).1 h1).1
  rw [h2] at this
  obtain ⟨x, rfl, hx⟩ := node_nat hi
  exact no_cycle this (hc x hx)
 ·obtain ⟨h1, h2⟩ := fam_kids hf hi hk
  obtain ⟨h1', h2'⟩ := fam_kids hf hi hk'
  obtain ⟨g1, m, hm⟩ := (mem_order hf hc h1 j).1 hj
  obtain ⟨_, m', hm'⟩ := (mem_order hf hc h1' j).1 hj'
  have : m = m' := Reach.steps hc g1 hm hm' (fun a b ha hb => by
   cases a with
   | zero => have : k < 0 := ha; have := ((node_iff _ _).1 h1).1; omega
   | succ a =>
    cases b with
    | zero => have : k' < 0 := hb; have := ((node_iff _ _).1 h1').1; omega
    | succ b =>
     have h5 := ha.2
     have h6 := hb.2
     rw [h2] at h5
     rw [h2'] at h6
     rw [h5.unique h6])
  subst this
  exact hm.same hm'
theorem nodup_len : ∀ (n : Nat) {l : List Int}, l.Nodup → (∀ x ∈ l, 0 ≤ x ∧ x < n) → l.length ≤ n
 | 0, l, _, h => by
  cases l with
  | nil => simp
  | cons x l => have := h x (by simp); omega
 | n + 1, l, hn, h => by
  have h1 := nodup_len n (hn.sublist (List.filter_sublist (p := fun x => decide (x ≠ (n : Int))))) (fun x hx => by
   obtain ⟨h2, h3⟩ := List.mem_filter.1 hx
   have := h x h2
   simp at h3
   omega)
  have h2 := List.length_eq_countP_add_countP (fun x => decide (x ≠ (n : Int))) (l := l)
  rw [List.countP_eq_length_filter] at h2
  have h3 : l.countP (fun a => decide ¬(decide (a ≠ (n : Int))) = true) = l.count (n : Int) := by
   unfold List.count
   apply List.countP_congr
   intro x _
   simp
  have h4 := (List.nodup_iff_count.1 hn) (n : Int)
  omega
theorem order_len {f : Fo} (hf : familyB f = true) (hc : climbsP f) {i : Int} (hi : isNode f i = true) : (order f i).length ≤ f.length :=
 nodup_len _ (order_nodup hf hc hi) (fun x hx => (node_iff _ _).1 ((mem_order hf hc hi x).1 hx).1)
theorem sum_flatMap {α β : Type} (c : β → Nat) (g : α → List β) : ∀ l : List α, ((l.flatMap g).map c).sum = (l.map (fun x => ((g x).map c).sum)).sum
 | [] => rfl
 | x :: l => by rw [List.flatMap_cons, List.map_append, List.sum_append, List.map_cons, List.sum_cons, sum_flatMap c g l]
theorem sum_le_len {α : Type} (c : α → Nat) (M : Nat) : ∀ (l : List α), (∀ x ∈ l, c x ≤ M) → (l.map c).sum ≤ l.length * M
 | [], _ => by simp
 | x :: l, h => by
  rw [List.map_cons, List.sum_cons, List.length_cons, Nat.add_mul]
  have := h x (by simp)
  have := sum_le_len c M l (fun y hy => h y (by simp [hy]))
  omega
end Go.Proofs.YtmbhkkophkccbaaGreat.FS
end
section
namespace Go.Proofs.YtmbhkkophkccbaaGreat.FS
open Go.Proofs.YtmbhkkophkccbaaGreat.WS
set_option linter.unusedVariables false

def repl (q : Bool) (c : UInt8) : Option (List UInt8) := if c = 38 then some [38, 97, 109, 112, 59] else if c = 60 then some [38, 108, 116, 59] else if q = true ∧ c = 34 then some [38, 113, 117, 111, 116, 59] else none
def escB (q : Bool) (c : UInt8) : List UInt8 := (repl q c).getD [c]
def esc (q : Bool) (s : List UInt8) : List UInt8 := s.flatMap (escB q)
theorem escB_len (q : Bool) (c : UInt8) : 1 ≤ (escB q c).length ∧ (escB q c).length ≤ 6 := by
 unfold escB repl
 split
 ·simp
 ·split
  ·simp
  ·split <;> simp
theorem esc_len (q : Bool) : ∀ s : List UInt8, s.length ≤ (esc q s).length ∧ (esc q s).length ≤ 6 * s.length
 | [] => by simp [esc]
 | c :: s => by
  have h1 := escB_len q c
  have h2 := esc_len q s
  unfold esc at h2 ⊢
  rw [List.flatMap_cons, List.length_append, List.length_cons]
  omega
theorem esc_append (q : Bool) (s t : List UInt8) : esc q (s ++ t) = esc q s ++ esc q t := List.flatMap_append
def attrL (a : Av) : List UInt8 := [32] ++ a.name.data.toList ++ [61, 34] ++ esc true a.value.data.toList ++ [34]
def headL (n : Nd) : List UInt8 := [60] ++ n.name.data.toList ++ n.attrs.flatMap attrL ++ [62]
def tailL (n : Nd) : List UInt8 := [60, 47] ++ n.name.data.toList ++ [62]
def printN (n : Nd) (l : List UInt8) : List UInt8 :=
 if n.kind = 0 then l
 else if n.kind = 1 then headL n ++ l ++ tailL n
 else if n.kind = 2 then esc false n.text.data.toList
 else if n.kind = 3 then [60, 33] ++ esc false n.text.data.toList ++ [33, 62]
 else []
noncomputable def printL (f : Fo) (i : Int) : List UInt8 := downF f (fun i l => printN (at_ f i) l) i
theorem printL_eq {f : Fo} (hf : familyB f = true) (hc : climbsP f) {i : Int} (hi : isNode f i = true) : printL f i = printN (at_ f i) ((at_ f i).kids.flatMap (printL f)) := downF_eq hf hc _ hi
theorem printN_len (n : Nd) (l : List UInt8) : (printN n l).length ≤ (printN n []).length + l.length := by
 unfold printN
 split
 ·simp
 ·split
  ·simp only [List.length_append, List.length_nil]; omega
  ·split
   ·omega
   ·split
    ·omega
    ·simp
theorem printL_len {f : Fo} (hf : familyB f = true) (hc : climbsP f) {i : Int} (hi : isNode f i = true) : (printL f i).length ≤ ((order f i).map (fun j => (printN (at_ f j) []).length)).sum := by
 refine down_ind hf hc (P := fun i => isNode f i = true → (printL f i).length ≤ ((order f i).map (fun j => (printN (at_ f j) []).length)).sum) (fun i _ ih hi => ?_) hi hi
 rw [order_eq hf hc hi, printL_eq hf hc hi, List.map_cons, List.sum_cons, sum_flatMap]
 refine Nat.le_trans (printN_len _ _) (Nat.add_le_add_left ?_ _)
 have key : ∀ l : List Int, (∀ k ∈ l, (printL f k).length ≤ ((order f k).map (fun j => (printN (at_ f j) []).length)).sum) → (l.flatMap (printL f)).length ≤ (l.map (fun x => ((order f x).map (fun j => (printN (at_ f j) []).length)).sum)).sum := by
  intro l
  induction l with
  | nil => intro _; simp
  | cons k l ih =>
   intro h
   rw [List.flatMap_cons, List.length_append, List.map_cons, List.sum_cons]
   have := h k (by simp)
   have := ih (fun x hx => h x (by simp [hx]))
   omega
 exact key _ (fun k hk => ih k hk (fam_kids hf hi hk).1)
theorem may_plain {f : Fo} (h : mayB f = true) {i : Int} (hi : isNode f i = true) : plainB (at_ f i) = true := by
 obtain ⟨n, rfl, hn⟩ := node_nat hi
 unfold mayB at h
 simp only [Bool.and_eq_true] at h
 have := List.all_eq_true.1 h.1.1.2 n (List.mem_range.2 hn)
 rw [Bool.and_eq_true] at this
 exact this.1
theorem attrL_len {a : Av} (h1 : a.name.data.toList.length ≤ 20) (h2 : a.value.data.toList.length ≤ 60) : (attrL a).length ≤ 384 := by
 unfold attrL
 simp only [List.length_append, List.length_cons, List.length_nil]
 have := (esc_len true a.value.data.toList).2
 omega
theorem name_len {s : List UInt8} (h : nameB s = true) : 1 ≤ s.length ∧ s.length ≤ 20 := by
 unfold nameB at h
 simp only [Bool.and_eq_true, decide_eq_true_eq] at h
 exact ⟨h.1.1.1, h.1.1.2⟩
theorem text_len {s : List UInt8} (h : textB s = true) : s.length ≤ 60 := by unfold textB at h; exact of_decide_eq_true h
theorem attrs_parts {l : List Av} (h : attrsB l = true) : l.length ≤ 8 ∧ ∀ a ∈ l, nameB a.name.data.toList = true ∧ textB a.value.data.toList = true := by
 unfold attrsB at h
 simp only [Bool.and_eq_true, decide_eq_true_eq, List.all_eq_true] at h
 exact ⟨h.2, h.1.1⟩
theorem attrsL_len {l : List Av} (h : ∀ a ∈ l, nameB a.name.data.toList = true ∧ textB a.value.data.toList = true) : (l.flatMap attrL).length ≤ l.length * 384 := by
 induction l with
 | nil => simp
 | cons a l ih =>
  rw [List.flatMap_cons, List.length_append, List.length_cons, Nat.add_mul]
  have := ih (fun x hx => h x (by simp [hx]))
  have h1 := h a (by simp)
  have := attrL_len (name_len h1.1).2 (text_len h1.2)
  omega
theorem printN_cost {n : Nd} (h : plainB n = true) : (printN n []).length ≤ 4000 := by
 unfold plainB at h
 unfold printN
 split at h
 ·rename_i h0; rw [if_pos h0]; simp
 ·rename_i h0
  rw [if_neg h0]
  split at h
  ·rename_i h1
   rw [if_pos h1]
   simp only [Bool.and_eq_true] at h
   have h2 := name_len h.1.1
   have h3 := attrs_parts h.2
   have h4 := attrsL_len h3.2
   unfold headL tailL
   simp only [List.length_append, List.length_cons, List.length_nil]
   omega
  ·rename_i h1
   rw [if_neg h1]
   split at h
   ·simp only [Bool.and_eq_true] at h
    have h2 := text_len h.1.1.2
    have h3 := (esc_len false n.text.data.toList).2
    split
    ·omega
    ·split
     ·simp only [List.length_append, List.length_cons, List.length_nil]; omega
     ·simp
   ·cases h
theorem print_small {f : Fo} (h : mayB f = true) {i : Int} (hi : isNode f i = true) : (printL f i).length ≤ 240000 := by
 have hf := may_family h
 have hc := may_climbs h
 have h1 := printL_len hf hc hi
 have h2 := sum_le_len (fun j => (printN (at_ f j) []).length) 4000 (order f i) (fun j hj => printN_cost (may_plain h ((mem_order hf hc hi j).1 hj).1))
 have h3 := order_len hf hc hi
 have h4 := (may_len h).2
 have : (order f i).length * 4000 ≤ 60 * 4000 := Nat.mul_le_mul_right _ (by omega)
 omega
noncomputable def printF (f : Fo) (i : Int) : List UInt8 := if mayB f = true ∧ isNode f i = true then printL f i else []
end Go.Proofs.YtmbhkkophkccbaaGreat.FS
end
section
namespace Go.Proofs.YtmbhkkophkccbaaGreat.FS
set_option linter.unusedVariables false
theorem below_iff {f : Fo} (hm : mayB f = true) {t i : Int} (hi : isNode f i = true) : belowB f t i = true ↔ belowP f t i := by
 unfold belowB
 rw [hm, hi]
 simp
theorem mem_tops {f : Fo} {t : Int} : t ∈ topsL f ↔ isNode f t = true ∧ (at_ f t).parent = -1 := by
 unfold topsL
 rw [List.mem_map]
 constructor
 ·rintro ⟨n, hn, rfl⟩
  rw [List.mem_filter, List.mem_range] at hn
  exact ⟨(node_iff _ _).2 ⟨by omega, by omega⟩, by simpa using hn.2⟩
 ·rintro ⟨h1, h2⟩
  obtain ⟨n, rfl, hn⟩ := node_nat h1
  exact ⟨n, by rw [List.mem_filter, List.mem_range]; exact ⟨hn, by simpa using h2⟩, rfl⟩
theorem tops_nodup (f : Fo) : (topsL f).Nodup := by
 unfold topsL
 refine List.Pairwise.map _ ?_ (List.nodup_range.sublist List.filter_sublist)
 intro a b h e
 exact h (by omega)
theorem countP_one {l : List Int} {p : Int → Bool} {t : Int} (hn : l.Nodup) (ht : t ∈ l) (hp : p t = true) (hu : ∀ x ∈ l, p x = true → x = t) : l.countP p = 1 := by
 have h1 : l.countP p = l.count t := by
  unfold List.count
  apply List.countP_congr
  intro x hx
  constructor
  ·intro h; simpa using hu x hx h
  ·intro h; have : x = t := by simpa using h
   rw [this]; exact hp
 have h2 := (List.nodup_iff_count.1 hn) t
 have h3 := List.count_pos_iff.2 ht
 omega
theorem top_of {f : Fo} (hf : familyB f = true) : ∀ (n : Nat) {i : Int}, isNode f i = true → Up f (n + 1) i → ∃ t, Reach f n i t ∧ isNode f t = true ∧ (at_ f t).parent = -1
 | 0, i, hi, h => ⟨i, rfl, hi, by have h1 : (at_ f i).parent < 0 := h.2; have := (fam_parent hf hi).1; omega⟩
 | n + 1, i, hi, h => by
  have h0 : 0 ≤ (at_ f i).parent := h.2.1
  have hp := (kid_of_parent hf hi h0).1
  obtain ⟨t, h1, h2, h3⟩ := top_of hf n hp h.2
  exact ⟨t, ⟨h.1, h1⟩, h2, h3⟩
theorem top_one {f : Fo} (hm : mayB f = true) {i : Int} (hi : isNode f i = true) : (topsL f).countP (fun t => belowB f t i) = 1 := by
 have hf := may_family hm
 have hc := may_climbs hm
 obtain ⟨x, rfl, hx⟩ := node_nat hi
 obtain ⟨N, hN⟩ := hc x hx
 obtain ⟨n, rfl⟩ : ∃ n, N = n + 1 := by
  cases N with
  | zero => have : (x : Int) < 0 := hN; omega
  | succ n => exact ⟨n, rfl⟩
 obtain ⟨t, h1, h2, h3⟩ := top_of hf n hi hN
 refine countP_one (tops_nodup f) (mem_tops.2 ⟨h2, h3⟩) ((below_iff hm hi).2 ⟨((node_iff _ _).1 h2).1, n, h1⟩) (fun y hy hb => ?_)
 obtain ⟨g1, g2⟩ := mem_tops.1 hy
 obtain ⟨_, m, hr⟩ := (below_iff hm hi).1 hb
 obtain ⟨k1, k2⟩ := hN.reach hr
 have k3 : Up f 1 y := ⟨((node_iff _ _).1 g1).1, by rw [g2]; show (-1 : Int) < 0; decide⟩
 have := k2.unique k3
 have : m = n := by omega
 subst this
 exact hr.same h1
theorem below_self {f : Fo} (hm : mayB f = true) {i : Int} (hi : isNode f i = true) : belowB f i i = true := (below_iff hm hi).2 ⟨((node_iff _ _).1 hi).1, 0, rfl⟩
theorem below_parent {f : Fo} (hm : mayB f = true) {i : Int} (hi : isNode f i = true) (h0 : 0 ≤ (at_ f i).parent) : belowB f i (at_ f i).parent = false ∧ belowB f (at_ f i).parent i = true := by
 have hf := may_family hm
 have hp := (kid_of_parent hf hi h0).1
 refine ⟨?_, (below_iff hm hi).2 ⟨h0, 1, ((node_iff _ _).1 hi).1, rfl⟩⟩
 rw [← Bool.not_eq_true]
 intro hb
 obtain ⟨h1, m, hr⟩ := (below_iff hm hp).1 hb
 have : Reach f (m + 1) i i := ⟨h1, hr⟩
 obtain ⟨x, rfl, hx⟩ := node_nat hi
 exact no_cycle this (may_climbs hm x hx)
theorem may_root {f : Fo} (hm : mayB f = true) : (at_ f 0).parent = -1 := by
 unfold mayB at hm
 simp only [Bool.and_eq_true, decide_eq_true_eq] at hm
 exact hm.1.1.1.2
theorem tops_head {f : Fo} (hm : mayB f = true) : ∃ l, topsL f = 0 :: l := by
 have hl := (may_len hm).1
 have hr := may_root hm
 unfold topsL
 obtain ⟨n, hn⟩ : ∃ n, f.length = n + 1 := ⟨f.length - 1, by omega⟩
 rw [hn, List.range_succ_eq_map, List.filter_cons]
 rw [if_pos (by simpa using hr)]
 exact ⟨_, rfl⟩
end Go.Proofs.YtmbhkkophkccbaaGreat.FS
end
section
namespace Go.Proofs.YtmbhkkophkccbaaGreat.FS
set_option linter.unusedVariables false
theorem set_at {f : Fo} {i : Nat} (hi : i < f.length) (n : Nd) (j : Int) : at_ (f.set i n) j = if j = (i : Int) then n else at_ f j := by
 unfold at_
 by_cases h0 : 0 ≤ j
 ·rw [if_pos h0, if_pos h0, List.getD_eq_getElem?_getD, List.getElem?_set]
  by_cases e : i = j.toNat
  ·rw [if_pos e, if_pos (by omega), if_pos (by omega)]; rfl
  ·rw [if_neg e, if_neg (by omega), ← List.getD_eq_getElem?_getD]
 ·rw [if_neg h0, if_neg h0, if_neg (by omega)]
theorem may_kinds {f : Fo} (h : mayB f = true) {i : Nat} (hi : i < f.length) : plainB (at_ f i) = true ∧ ((at_ f i).kind = 0 ↔ i = 0) := by
 unfold mayB at h
 simp only [Bool.and_eq_true] at h
 have := List.all_eq_true.1 h.1.1.2 i (List.mem_range.2 hi)
 simp only [Bool.and_eq_true] at this
 exact ⟨this.1, by simpa using this.2⟩
theorem kind_not {f : Fo} {i : Nat} (hi : i < f.length) (n : Nd) (hk : n.kind < 0 ∨ 3 < n.kind ∨ ¬ (n.kind = 0 ↔ i = 0)) : mayB (f.set i n) = false := by
 rw [← Bool.not_eq_true]
 intro h
 obtain ⟨h1, h2⟩ := may_kinds h (i := i) (by rw [List.length_set]; exact hi)
 rw [set_at hi, if_pos rfl] at h1 h2
 rcases hk with hk | hk | hk
 ·unfold plainB at h1
  rw [if_neg (by omega), if_neg (by omega), if_neg (by omega)] at h1
  cases h1
 ·unfold plainB at h1
  rw [if_neg (by omega), if_neg (by omega), if_neg (by omega)] at h1
  cases h1
 ·exact hk h2
theorem parent_is {f : Fo} (hm : mayB f = true) {i : Nat} (hi : i < f.length) (p : Int) : mayB (f.set i { at_ f i with parent := p }) = decide (p = (at_ f i).parent) := by
 by_cases e : p = (at_ f i).parent
 ·subst e
  rw [decide_eq_true rfl]
  have : f.set i (at_ f (i : Int)) = f := by
   rw [atN hi]
   exact List.set_getElem_self hi
  exact (congrArg mayB this).trans hm
 ·rw [decide_eq_false e, ← Bool.not_eq_true]
  intro hh
  obtain ⟨n, hn⟩ : ∃ n : Nd, n = { at_ f i with parent := p } := ⟨_, rfl⟩
  rw [← hn] at hh
  have hf := may_family hm
  have hg := may_family hh
  have hpar : ∀ j, (at_ (f.set i n) j).parent = if j = (i : Int) then p else (at_ f j).parent := fun j => by
   rw [set_at hi]; split
   ·rw [hn]
   ·rfl
  have hkid : ∀ j, (at_ (f.set i n) j).kids = (at_ f j).kids := fun j => by
   rw [set_at hi]; split
   ·rename_i h; rw [hn, h]
   ·rfl
  have hnode : ∀ j, isNode (f.set i n) j = isNode f j := fun j => by unfold isNode; rw [List.length_set]
  have hi1 : isNode f (i : Int) = true := (node_iff _ _).2 ⟨by omega, by omega⟩
  have hi2 : isNode (f.set i n) (i : Int) = true := by rw [hnode]; exact hi1
  have hp2 : (at_ (f.set i n) (i : Int)).parent = p := by rw [hpar, if_pos rfl]
  have hb := fam_parent hg hi2
  rw [hp2] at hb
  by_cases h0 : 0 ≤ p
  ·have h1 := kid_of_parent hg hi2 (by rw [hp2]; exact h0)
   rw [hp2, hnode, hkid] at h1
   exact e (fam_kids hf h1.1 h1.2).2.symm
  ·have h1 : 0 ≤ (at_ f (i : Int)).parent := by have := (fam_parent hf hi1).1; omega
   obtain ⟨h2, h3⟩ := kid_of_parent hf hi1 h1
   have h4 := (fam_kids hg (i := (at_ f (i : Int)).parent) (k := i) (by rw [hnode]; exact h2) (by rw [hkid]; exact h3)).2
   rw [hp2] at h4
   exact e h4
def newFo : Fo := [{ parent := -1 }]
theorem new_may : mayB newFo = true := by
 have hf : familyB newFo = true := by decide
 have hc : climbsP newFo := by
  intro i hi
  have h1 : i < 1 := hi
  obtain rfl : i = 0 := by omega
  exact ⟨1, by simp only [Up]; decide⟩
 unfold mayB
 rw [hf, climbs_true hc]
 decide
end Go.Proofs.YtmbhkkophkccbaaGreat.FS
end
section
namespace Go.Proofs.YtmbhkkophkccbaaGreat.FS
open Go.Proofs.YtmbhkkophkccbaaGreat.WS
set_option linter.unusedVariables false
structure Opn where
 kind : Int := 0
 id : Int := 0
 to : Int := 0
 at_ : Int := 0
 name : ByteArray := ⟨#[]⟩
 text : ByteArray := ⟨#[]⟩
deriving DecidableEq, Inhabited
def shapeN (k : Int) : Int := if k = 4 then 3 else if 5 ≤ k then 1 else 0
def shapeA (k : Int) : Bool := k == 1 || k == 6 || k == 7
def shapeT (k : Int) : Bool := k == 2 || k == 3 || k == 6 || k == 8
def mayO (o : Opn) : Bool := decide (1 ≤ o.kind ∧ o.kind ≤ 8) && decide (o.name.size ≤ 255) && decide (o.text.size ≤ 255) && (decide (1 ≤ shapeN o.kind) || o.id == 0) && (decide (2 ≤ shapeN o.kind) || o.to == 0) && (decide (3 ≤ shapeN o.kind) || o.at_ == 0) &&
 (shapeA o.kind || decide (o.name.size = 0)) && (shapeT o.kind || decide (o.text.size = 0))
def knownB (f : Fo) (o : Opn) : Bool := isNode f o.id
def namedB (o : Opn) : Bool := nameB o.name.data.toList && textB o.text.data.toList
def textedB (o : Opn) : Bool := textB o.text.data.toList
def roomB (f : Fo) : Bool := decide (f.length < 60)
def elemB (f : Fo) (o : Opn) : Bool := (at_ f o.id).kind == 1
def findA (l : List Av) (s : ByteArray) : Option Nat := l.findIdx? (fun a => decide (a.name = s))
def hasA (f : Fo) (o : Opn) : Bool := (findA (at_ f o.id).attrs o.name).isSome
def liesB (f : Fo) (o : Opn) : Bool :=
 if o.id = 0 ∨ ((at_ f o.to).kind ≠ 0 ∧ (at_ f o.to).kind ≠ 1) then false
 else if o.to ≠ 0 ∨ (at_ f o.id).kind = 3 then true
 else (at_ f o.id).kind == 1 && !(at_ f o.to).kids.any (fun k => k != o.id && (at_ f k).kind == 1)
def fitsB (f : Fo) (o : Opn) : Bool := decide (0 ≤ o.at_ ∧ o.at_ ≤ ((at_ f o.to).kids.length : Int) - if (at_ f o.id).parent = o.to then 1 else 0)
noncomputable def checks (f : Fo) (o : Opn) : List (Int × Bool) :=
 if o.kind = 1 then [(74, namedB o), (2, roomB f)]
 else if o.kind = 2 ∨ o.kind = 3 then [(74, textedB o), (2, roomB f)]
 else if o.kind = 4 then [(70, knownB f o), (70, isNode f o.to), (71, liesB f o), (72, !belowB f o.id o.to), (73, fitsB f o)]
 else if o.kind = 5 then [(70, knownB f o), (71, o.id != 0), (3, (at_ f o.id).parent != -1)]
 else if o.kind = 6 then [(70, knownB f o), (71, elemB f o), (74, namedB o), (75, hasA f o || decide ((at_ f o.id).attrs.length < 8))]
 else if o.kind = 7 then [(70, knownB f o), (71, elemB f o), (75, hasA f o)]
 else [(70, knownB f o), (71, (at_ f o.id).kind == 2 || (at_ f o.id).kind == 3), (74, textedB o)]
def firstE (l : List (Int × Bool)) : Int := ((l.find? (fun c => !c.2)).map (·.1)).getD 0
noncomputable def oneE (f : Fo) (o : Opn) : Int := if mayO o then firstE (checks f o) else 1
def freshF (f : Fo) (o : Opn) : Fo := f ++ [{ kind := o.kind, name := o.name, text := o.text, parent := -1 }]
def takeF (f : Fo) (i : Int) : Fo :=
 let p := (at_ f i).parent
 let g := if p = -1 then f else f.set p.toNat { at_ f p with kids := (at_ f p).kids.filter (· != i) }
 g.set i.toNat { at_ g i with parent := -1 }
def insertL (l : List Int) (i : Nat) (x : Int) : List Int := l.take i ++ x :: l.drop i
def insertF (f : Fo) (o : Opn) : Fo :=
 let g := takeF f o.id
 let h := g.set o.id.toNat { at_ g o.id with parent := o.to }
 h.set o.to.toNat { at_ h o.to with kids := insertL (at_ h o.to).kids o.at_.toNat o.id }
def setA (l : List Av) (n t : ByteArray) : List Av := match findA l n with | some i => l.set i ⟨n, t⟩ | none => l ++ [⟨n, t⟩]
def delA (l : List Av) (n : ByteArray) : List Av := match findA l n with | some i => l.eraseIdx i | none => l
def doF (f : Fo) (o : Opn) : Fo :=
 if o.kind ≤ 3 then freshF f o
 else if o.kind = 4 then insertF f o
 else if o.kind = 5 then takeF f o.id
 else if o.kind = 6 then f.set o.id.toNat { at_ f o.id with attrs := setA (at_ f o.id).attrs o.name o.text }
 else if o.kind = 7 then f.set o.id.toNat { at_ f o.id with attrs := delA (at_ f o.id).attrs o.name }
 else f.set o.id.toNat { at_ f o.id with text := o.text }
noncomputable def oneF (f : Fo) (o : Opn) : Fo := if oneE f o = 0 then doF f o else f
end Go.Proofs.YtmbhkkophkccbaaGreat.FS
end
section
namespace Go.Proofs.YtmbhkkophkccbaaGreat.FS
open Go.Proofs.YtmbhkkophkccbaaGreat.WS
set_option linter.unusedVariables false
structure Tst where
 kind : Int := 0
 name : ByteArray := ⟨#[]⟩
 value : ByteArray := ⟨#[]⟩
deriving DecidableEq, Inhabited
structure Stp where
 c : List Tst := []
 child : Bool := false
deriving DecidableEq, Inhabited
abbrev Sro := List Stp
abbrev Sel := List Sro
def valA (l : List Av) (s : ByteArray) : Option ByteArray := (l.find? (fun a => decide (a.name = s))).map (·.value)
abbrev idS : ByteArray := ⟨#[105, 100]⟩
abbrev classS : ByteArray := ⟨#[99, 108, 97, 115, 115]⟩
def soB (n : Nd) (t : Tst) : Bool :=
 if t.kind = 1 then decide (n.name.data.map foldB = t.name.data.map foldB)
 else if t.kind = 2 then decide (valA n.attrs idS = some t.name)
 else if t.kind = 3 then match valA n.attrs classS with | some v => (words v.data.toList).contains t.name.data.toList | none => false
 else if t.kind = 4 then (valA n.attrs t.name).isSome
 else if t.kind = 5 then decide (valA n.attrs t.name = some t.value)
 else false
def fitsC (n : Nd) (c : List Tst) : Bool := decide (n.kind = 1) && c.all (soB n)
def upL (f : Fo) : Nat → Int → List Int
 | 0, _ => []
 | n + 1, i => i :: upL f n (at_ f i).parent
def stepL (f : Fo) (x : Stp) (first : Bool) (way : List Int) (now : List Bool) : List Bool :=
 (List.range way.length).map (fun k => (if !first && x.child then decide (0 < k) && now.getD (k - 1) false else first || (now.take k).any id) && fitsC (at_ f (way.getD k 0)) x.c)
def endsL (f : Fo) (way : List Int) : Bool → List Bool → Sro → List Bool
 | _, now, [] => now
 | first, now, x :: r => endsL f way false (stepL f x first way now) r
def endsB (f : Fo) (way : List Int) (r : Sro) : Bool := decide (r ≠ []) && (endsL f way true (List.replicate way.length false) r).getD (way.length - 1) false
end Go.Proofs.YtmbhkkophkccbaaGreat.FS
namespace Go.Proofs.YtmbhkkophkccbaaGreat.Shapes
open Go Go.RowKit Go.Deep Rd
open Go.Proofs.YtmbhkkophkccbaaGreat.FS (Av Nd Fo Tst Stp Sro Sel)
set_option linter.unusedVariables false
def testE : Elem Tst := fun _ _ cs t => cs = [.int .i64 t.kind, .string t.name, .string t.value] ∧ t.name.size ≤ maxLen ∧ t.value.size ≤ maxLen ∧ (Lit.int .i64 t.kind).wf = true
theorem testE_keeps : testE.Keeps := fun _ _ _ _ _ _ h _ _ => h
def stepE : Elem Stp := fun B w cs s => ∃ v, cs = [v, .bool s.child] ∧ RdL testE 3 B w v s.c
theorem stepE_keeps : stepE.Keeps := fun B B' w w' cs n ⟨v, h1, h2⟩ hb hB => ⟨v, h1, h2.keep testE_keeps hb hB⟩
def rowE : Elem Sro := fun B w cs r => ∃ v, cs = [v] ∧ RdL stepE 2 B w v r
theorem rowE_keeps : rowE.Keeps := fun B B' w w' cs n ⟨v, h1, h2⟩ hb hB => ⟨v, h1, h2.keep stepE_keeps hb hB⟩
abbrev RdSel := RdL rowE 1
theorem test_at {B : Nat} {w : World} {A : Option Addr} {n c : Nat} {l : List Tst} (h : RdL testE 3 B w (.slice A n c) l) {i : Nat} (hi : i < l.length) :
  ∃ b o : Nat, A = some ⟨b, o, none⟩ ∧ b < B ∧ w.cell? ⟨b, o + i * 3, none⟩ = some (.int .i64 l[i].kind) ∧ w.cell? ⟨b, o + i * 3 + 1, none⟩ = some (.string l[i].name) ∧ w.cell? ⟨b, o + i * 3 + 2, none⟩ = some (.string l[i].value) ∧ l[i].name.size ≤ maxLen ∧ l[i].value.size ≤ maxLen ∧ (Lit.int .i64 l[i].kind).wf = true := by
 obtain ⟨b, o, cs, e, hlt, hl, hc, rfl, hm, hm2, hm3⟩ := h.at_ hi
 exact ⟨b, o, e, hlt, hc 0 _ rfl, hc 1 _ rfl, hc 2 _ rfl, hm, hm2, hm3⟩
theorem step_at {B : Nat} {w : World} {A : Option Addr} {n c : Nat} {l : Sro} (h : RdL stepE 2 B w (.slice A n c) l) {i : Nat} (hi : i < l.length) :
  ∃ (b o : Nat) (At : Option Addr) (ct : Nat), A = some ⟨b, o, none⟩ ∧ b < B ∧ w.cell? ⟨b, o + i * 2, none⟩ = some (.slice At l[i].c.length ct) ∧ w.cell? ⟨b, o + i * 2 + 1, none⟩ = some (.bool l[i].child) ∧ RdL testE 3 B w (.slice At l[i].c.length ct) l[i].c ∧ l[i].c.length ≤ ct ∧ ct ≤ maxLen := by
 obtain ⟨b, o, cs, e, hlt, hl, hc, v, rfl, hr⟩ := h.at_ hi
 obtain ⟨At, ct, rfl, p1, p2, hr'⟩ := hr.form
 exact ⟨b, o, At, ct, e, hlt, hc 0 _ rfl, hc 1 _ rfl, hr', p1, p2⟩
theorem row_at {B : Nat} {w : World} {A : Option Addr} {n c : Nat} {l : Sel} (h : RdSel B w (.slice A n c) l) {i : Nat} (hi : i < l.length) :
  ∃ (b o : Nat) (At : Option Addr) (ct : Nat), A = some ⟨b, o, none⟩ ∧ b < B ∧ w.cell? ⟨b, o + i, none⟩ = some (.slice At l[i].length ct) ∧ RdL stepE 2 B w (.slice At l[i].length ct) l[i] ∧ l[i].length ≤ ct ∧ ct ≤ maxLen := by
 obtain ⟨b, o, cs, e, hlt, hl, hc, v, rfl, hr⟩ := h.at_ hi
 obtain ⟨At, ct, rfl, p1, p2, hr'⟩ := hr.form
 have h0 := hc 0 _ rfl
 rw [Nat.mul_one, Nat.add_zero] at h0
 exact ⟨b, o, At, ct, e, hlt, h0, hr', p1, p2⟩
end Go.Proofs.YtmbhkkophkccbaaGreat.Shapes
end
section
namespace Go.Proofs
open Go.Shelf
def Tryz.lays119_ren : Go.Shelf.Ren := ⟨fun | 119 => 245 | n => n, fun | 21 => 21 | 4 => 4 | n => n, fun | n => n⟩
theorem Tryz.lays119 : Go.Proofs.Lays.n119 Tryz.prog Tryz.lays119_ren := {
 mixed := by kernel_rfl
 f119 := Tryz.func245.trans (congrArg some (by kernel_rfl))
 t4 := Tryz.underlying4
 a4 := Tryz.isAgg4
 z4 := Tryz.sizeOf4
 v4 := Tryz.zeroValue4
 t21 := Tryz.underlying21
 a21 := Tryz.isAgg21
 z21 := Tryz.sizeOf21
 v21 := Tryz.zeroValue21 }
theorem Tryz.utf8_ValidRune (r : Int) (w : World) :
  Calls Tryz.prog 245 #[.int .i32 r] w fun e w' => e = .returned (.bool (Lib.validRune r)) ∧ w' = w := Any.utf8_ValidRune Tryz.lays119 r w
def Tryz.lays137_ren : Go.Shelf.Ren := ⟨fun | 137 => 195 | 217 => 222 | 266 => 240 | n => n, fun | 9 => 9 | 5 => 5 | 3 => 3 | n => n, fun | n => n⟩
theorem Tryz.lays137 : Go.Proofs.Lays.n137 Tryz.prog Tryz.lays137_ren := {
 mixed := by kernel_rfl
 f137 := Tryz.func195.trans (congrArg some (by kernel_rfl))
 f217 := Tryz.func222.trans (congrArg some (by kernel_rfl))
 f266 := Tryz.func240.trans (congrArg some (by kernel_rfl))
 t3 := Tryz.underlying3
 a3 := Tryz.isAgg3
 z3 := Tryz.sizeOf3
 v3 := Tryz.zeroValue3
 t5 := Tryz.underlying5
 a5 := Tryz.isAgg5
 z5 := Tryz.sizeOf5
 v5 := Tryz.zeroValue5
 t9 := Tryz.underlying9
 a9 := Tryz.isAgg9
 z9 := Tryz.sizeOf9
 v9 := Tryz.zeroValue9 }
open Go.RowKit in
theorem Tryz.strings_IndexByte (s : ByteArray) (c : Int) (w : World) :
  Calls Tryz.prog 195 #[.string s, .int .u8 c] w fun e w' => e = .returned (.int .i64 (Lib.indexByte s.data.toList c.toNat.toUInt8)) ∧ w' = w := Any.strings_IndexByte Tryz.lays137 s c w
def Tryz.lays152_ren : Go.Shelf.Ren := ⟨fun | 152 => 236 | 137 => 195 | 119 => 245 | 224 => 246 | 225 => 247 | 217 => 222 | 266 => 240 | n => n, fun | 9 => 9 | 21 => 21 | 3 => 3 | 4 => 4 | 5 => 5 | 0 => 0 | 46 => 271 | n => n, fun | n => n⟩
theorem Tryz.lays152 : Go.Proofs.Lays.n152 Tryz.prog Tryz.lays152_ren := {
 mixed := by kernel_rfl
 f119 := Tryz.func245.trans (congrArg some (by kernel_rfl))
 f137 := Tryz.func195.trans (congrArg some (by kernel_rfl))
 f152 := Tryz.func236.trans (congrArg some (by kernel_rfl))
 f217 := Tryz.func222.trans (congrArg some (by kernel_rfl))
 f224 := Tryz.func246.trans (congrArg some (by kernel_rfl))
 f225 := Tryz.func247.trans (congrArg some (by kernel_rfl))
 f266 := Tryz.func240.trans (congrArg some (by kernel_rfl))
 t0 := Tryz.underlying0
 a0 := Tryz.isAgg0
 z0 := Tryz.sizeOf0
 v0 := Tryz.zeroValue0
 t3 := Tryz.underlying3
 a3 := Tryz.isAgg3
 z3 := Tryz.sizeOf3
 v3 := Tryz.zeroValue3
 t4 := Tryz.underlying4
 a4 := Tryz.isAgg4
 z4 := Tryz.sizeOf4
 v4 := Tryz.zeroValue4
 t5 := Tryz.underlying5
 a5 := Tryz.isAgg5
 z5 := Tryz.sizeOf5
 v5 := Tryz.zeroValue5
 t9 := Tryz.underlying9
 a9 := Tryz.isAgg9
 z9 := Tryz.sizeOf9
 v9 := Tryz.zeroValue9
 t21 := Tryz.underlying21
 a21 := Tryz.isAgg21
 z21 := Tryz.sizeOf21
 v21 := Tryz.zeroValue21
 t46 := Tryz.underlying271
 a46 := Tryz.isAgg271
 z46 := Tryz.sizeOf271
 v46 := Tryz.zeroValue271 }
open Go.RowKit Go.Lib in
theorem Tryz.strings_IndexRune_ascii (s : ByteArray) (r : Int) (w : World) (h0 : 0 ≤ r) (h1 : r < 128) :
  Calls Tryz.prog 236 #[.string s, .int .i32 r] w fun e w' => e = .returned (.int .i64 (Lib.indexByte s.data.toList r.toNat.toUInt8)) ∧ w' = w := Any.strings_IndexRune_ascii Tryz.lays152 s r w h0 h1
def Tryz.lays226_ren : Go.Shelf.Ren := ⟨fun | 226 => 237 | n => n, fun | 3 => 3 | 4 => 4 | n => n, fun | n => n⟩
theorem Tryz.lays226 : Go.Proofs.Lays.n226 Tryz.prog Tryz.lays226_ren := {
 mixed := by kernel_rfl
 f226 := Tryz.func237.trans (congrArg some (by kernel_rfl))
 t3 := Tryz.underlying3
 a3 := Tryz.isAgg3
 z3 := Tryz.sizeOf3
 v3 := Tryz.zeroValue3
 t4 := Tryz.underlying4
 a4 := Tryz.isAgg4
 z4 := Tryz.sizeOf4
 v4 := Tryz.zeroValue4 }
open Go.RowKit Go.Lib in
theorem Tryz.strings_shouldUseASCIISet (n : Int) (w : World) :
  Calls Tryz.prog 237 #[.int .i64 n] w fun e w' => e = .returned (.bool (decide (8 < n))) ∧ w' = w := Any.strings_shouldUseASCIISet Tryz.lays226 n w
def Tryz.lays153_ren : Go.Shelf.Ren := ⟨fun | 153 => 220 | 152 => 236 | 226 => 237 | 227 => 238 | 228 => 239 | 137 => 195 | 119 => 245 | 224 => 246 | 225 => 247 | 217 => 222 | 266 => 240 | n => n, fun | 9 => 9 | 3 => 3 | 4 => 4 | 5 => 5 | 21 => 21 | 117 => 311 | 116 => 310 | 0 => 0 | 46 => 271 | 124 => 317 | n => n, fun | n => n⟩
theorem Tryz.lays153 : Go.Proofs.Lays.n153 Tryz.prog Tryz.lays153_ren := {
 mixed := by kernel_rfl
 f119 := Tryz.func245.trans (congrArg some (by kernel_rfl))
 f137 := Tryz.func195.trans (congrArg some (by kernel_rfl))
 f152 := Tryz.func236.trans (congrArg some (by kernel_rfl))
 f153 := Tryz.func220.trans (congrArg some (by kernel_rfl))
 f217 := Tryz.func222.trans (congrArg some (by kernel_rfl))
 f224 := Tryz.func246.trans (congrArg some (by kernel_rfl))
 f225 := Tryz.func247.trans (congrArg some (by kernel_rfl))
 f226 := Tryz.func237.trans (congrArg some (by kernel_rfl))
 f227 := Tryz.func238.trans (congrArg some (by kernel_rfl))
 f228 := Tryz.func239.trans (congrArg some (by kernel_rfl))
 f266 := Tryz.func240.trans (congrArg some (by kernel_rfl))
 t0 := Tryz.underlying0
 a0 := Tryz.isAgg0
 z0 := Tryz.sizeOf0
 v0 := Tryz.zeroValue0
 t3 := Tryz.underlying3
 a3 := Tryz.isAgg3
 z3 := Tryz.sizeOf3
 v3 := Tryz.zeroValue3
 t4 := Tryz.underlying4
 a4 := Tryz.isAgg4
 z4 := Tryz.sizeOf4
 v4 := Tryz.zeroValue4
 t5 := Tryz.underlying5
 a5 := Tryz.isAgg5
 z5 := Tryz.sizeOf5
 v5 := Tryz.zeroValue5
 t9 := Tryz.underlying9
 a9 := Tryz.isAgg9
 z9 := Tryz.sizeOf9
 v9 := Tryz.zeroValue9
 t21 := Tryz.underlying21
 a21 := Tryz.isAgg21
 z21 := Tryz.sizeOf21
 v21 := Tryz.zeroValue21
 t46 := Tryz.underlying271
 a46 := Tryz.isAgg271
 z46 := Tryz.sizeOf271
 v46 := Tryz.zeroValue271
 t116 := Tryz.underlying310
 a116 := Tryz.isAgg310
 z116 := Tryz.sizeOf310
 t117 := Tryz.underlying311
 a117 := Tryz.isAgg311
 z117 := Tryz.sizeOf311
 v117 := Tryz.zeroValue311
 t124 := Tryz.underlying317
 a124 := Tryz.isAgg317
 z124 := Tryz.sizeOf317
 v124 := Tryz.zeroValue317 }
open Go.RowKit Go.Lib in
theorem Tryz.strings_IndexAny_long (hv116 : ∀ w, (zeroValue 310).run Tryz.prog w = .ok (.agg (Array.replicate 256 (.bool false))) w) (s chars : ByteArray) (w : World) (h2 : 2 ≤ chars.size) (h8 : 8 < s.size) (hs : s.size < 4294967281) (hcs : chars.size < 4294967281) (hascii : ∀ (j : Nat) b, chars.data.toList[j]? = some b → b.toNat < 128) :
  Calls Tryz.prog 220 #[.string s, .string chars] w fun e w' => e = .returned (.int .i64 (Lib.indexAny s.data.toList chars.data.toList)) ∧ w' = ((w.alloc (.cells (Lib.setCells chars.data.toList) 310)).alloc (.cells (Lib.setCells chars.data.toList) 310)) := Any.strings_IndexAny_long Tryz.lays153 hv116 (by kernel_rfl) s chars w h2 h8 hs hcs hascii
end Go.Proofs
end
