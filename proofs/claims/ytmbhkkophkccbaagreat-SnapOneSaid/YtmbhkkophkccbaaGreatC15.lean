import Derived.Sort.CutIn
import Derived.Test.YtmbhkkophkccbaaGreatC07
import Derived.Test.YtmbhkkophkccbaaGreatC14
import Derived.Test.YtmbhkkophkccbaaGreatC06
section
namespace Go.Proofs.YtmbhkkophkccbaaGreat.FS
open Go.Proofs.YtmbhkkophkccbaaGreat.WS
set_option linter.unusedVariables false

def parentE (f : Fo) (i : Int) : Int × Int := if isNode f i = false then (0, 70) else if (at_ f i).parent = -1 then (0, 3) else ((at_ f i).parent, 0)
def kidsE (f : Fo) (i : Int) : List Int × Int := if isNode f i = false then ([], 70) else ((at_ f i).kids, 0)
def idxL (l : List Int) (x : Int) : Int := match l.findIdx? (fun y => y == x) with | some i => i | none => -1
def besideE (f : Fo) (i d : Int) : Int × Int :=
 if isNode f i = false then (0, 70)
 else if (at_ f i).parent = -1 then (0, 3)
 else if d < -(idxL (at_ f (at_ f i).parent).kids i) ∨ ((at_ f (at_ f i).parent).kids.length : Int) - idxL (at_ f (at_ f i).parent).kids i ≤ d then (0, 3)
 else ((at_ f (at_ f i).parent).kids.getD (idxL (at_ f (at_ f i).parent).kids i + d).toNat 0, 0)
def ownT (f : Fo) (k : Int) : List UInt8 := if (at_ f k).kind = 2 then (at_ f k).text.data.toList else []
noncomputable def contentL (f : Fo) (i : Int) : List UInt8 := (order f i).flatMap (ownT f)
def attrV (f : Fo) (i : Int) (s : ByteArray) : Option ByteArray := ((at_ f i).attrs.find? (fun a => decide (a.name = s))).map (·.value)
def attrErr (f : Fo) (i : Int) (s : ByteArray) : Int := if isNode f i = false then 70 else if (at_ f i).kind ≠ 1 then 71 else if (attrV f i s).isSome then 0 else 75
def attrVal (f : Fo) (i : Int) (s : ByteArray) : ByteArray := if attrErr f i s = 0 then (attrV f i s).getD ⟨#[]⟩ else ⟨#[]⟩
def idN : ByteArray := ⟨#[105, 100]⟩
def hitB (f : Fo) (text : ByteArray) (k : Int) : Bool := decide (attrErr f k idN = 0) && decide (attrVal f k idN = text) && decide (text.size ≠ 0)
noncomputable def byId (f : Fo) (text : ByteArray) : Option Int := (order f 0).find? (hitB f text)

section
variable {f : Fo} (h : IsMay f)
include h
theorem IsMay.fam : familyB f = true := may_family (is_may h)
theorem order_mem {i : Int} (hi : isNode f i = true) (j : Int) : j ∈ order f i ↔ isNode f j = true ∧ belowB f i j = true := by
 rw [mem_order h.fam h.climb hi]
 constructor
 ·rintro ⟨h1, m, hm⟩
  exact ⟨h1, (below_iff (is_may h) h1).2 ⟨((node_iff _ _).1 hi).1, m, hm⟩⟩
 ·rintro ⟨h1, h2⟩
  exact ⟨h1, ((below_iff (is_may h) h1).1 h2).2⟩
theorem order_count {i : Int} (hi : isNode f i = true) {k : Int} (hk : isNode f k = true) : (order f i).count k = if belowB f i k then 1 else 0 := by
 have hn := order_nodup h.fam h.climb hi
 by_cases hb : belowB f i k = true
 ·rw [if_pos hb]
  have h1 := (List.nodup_iff_count.1 hn) k
  have h2 := List.count_pos_iff.2 ((order_mem h hi k).2 ⟨hk, hb⟩)
  omega
 ·rw [if_neg hb]
  exact List.count_eq_zero_of_not_mem (fun hm => hb ((order_mem h hi k).1 hm).2)
omit h in
theorem length_counts : ∀ (n : Nat) (l : List Int), (∀ x ∈ l, 0 ≤ x ∧ x < n) → l.length = ((List.range n).map (fun k : Nat => l.count (k : Int))).sum
 | 0, l, hl => by
  cases l with
  | nil => rfl
  | cons x l => have := hl x (by simp); omega
 | n + 1, l, hl => by
  rw [List.range_succ, List.map_append, List.sum_append]
  have h1 := length_counts n (l.filter (fun x => decide (x ≠ (n : Int)))) (fun x hx => by
   obtain ⟨h2, h3⟩ := List.mem_filter.1 hx
   have := hl x h2
   simp at h3
   omega)
  have h2 : ∀ k ∈ List.range n, (l.filter (fun x => decide (x ≠ (n : Int)))).count (k : Int) = l.count (k : Int) := fun k hk => by
   have := List.mem_range.1 hk
   rw [List.count_filter (by simp; omega)]
  rw [List.map_congr_left h2] at h1
  rw [← h1]
  have h3 := List.length_eq_countP_add_countP (fun x => decide (x ≠ (n : Int))) (l := l)
  rw [List.countP_eq_length_filter] at h3
  have h4 : l.countP (fun a => decide ¬(decide (a ≠ (n : Int))) = true) = l.count (n : Int) := by
   unfold List.count
   apply List.countP_congr
   intro x _
   simp
  simp only [List.map_cons, List.map_nil, List.sum_cons, List.sum_nil, Nat.add_zero]
  omega
omit h in
theorem sum_swap {α β : Type} (c : α → β → Nat) : ∀ (l : List α) (m : List β), (l.map (fun x => (m.map (c x)).sum)).sum = (m.map (fun y => (l.map (fun x => c x y)).sum)).sum
 | [], m => by
  rw [List.map_nil, List.sum_nil]
  symm
  exact sum_zero _ (fun x hx => by
   obtain ⟨y, _, rfl⟩ := List.mem_map.1 hx
   rfl)
 | x :: l, m => by
  rw [List.map_cons, List.sum_cons, sum_swap c l m]
  have : ∀ (m : List β), (m.map (c x)).sum + (m.map (fun y => (l.map (fun x => c x y)).sum)).sum = (m.map (fun y => ((x :: l).map (fun x => c x y)).sum)).sum := by
   intro m
   induction m with
   | nil => rfl
   | cons y m ih =>
    simp only [List.map_cons, List.sum_cons] at ih ⊢
    omega
  exact this m
omit h in
theorem sum_ones : ∀ (n : Nat) (c : Nat → Nat), (∀ k, k < n → c k = 1) → ((List.range n).map c).sum = n
 | 0, _, _ => rfl
 | n + 1, c, h => by
  rw [List.range_succ, List.map_append, List.sum_append, sum_ones n c (fun k hk => h k (by omega))]
  simp [h n (by omega)]
omit h in
theorem sum_countP {α : Type} (p : α → Bool) : ∀ l : List α, (l.map (fun x => if p x then 1 else 0)).sum = l.countP p
 | [] => rfl
 | x :: l => by
  rw [List.map_cons, List.sum_cons, sum_countP p l, List.countP_cons]
  omega
theorem tops_orders : ((topsL f).map (fun t => (order f t).length)).sum = f.length := by
 have h1 : ∀ t ∈ topsL f, (order f t).length = ((List.range f.length).map (fun k : Nat => if belowB f t k then 1 else 0)).sum := fun t ht => by
  have hn := (mem_tops.1 ht).1
  rw [length_counts f.length _ (fun x hx => (node_iff _ _).1 ((order_mem h hn x).1 hx).1)]
  congr 1
  exact List.map_congr_left (fun k hk => order_count h hn (nodeI (List.mem_range.1 hk)))
 rw [List.map_congr_left h1, sum_swap]
 exact sum_ones _ _ (fun k hk => by
  rw [sum_countP]
  exact top_one (is_may h) (nodeI hk))
omit h in
theorem countP_split {α : Type} {p q r : α → Bool} : ∀ {l : List α}, (∀ y ∈ l, p y = (q y || r y) ∧ ¬ (q y = true ∧ r y = true)) → l.countP p = l.countP q + l.countP r
 | [], _ => rfl
 | y :: l, h => by
  rw [List.countP_cons, List.countP_cons, List.countP_cons, countP_split (fun z hz => h z (by simp [hz]))]
  obtain ⟨h1, h2⟩ := h y (by simp)
  rw [h1]
  cases hq : q y <;> cases hr : r y <;> simp_all <;> omega
omit h in
theorem count_self (n x : Nat) (hx : x < n) : (List.range n).countP (fun k => decide (k = x)) = 1 := by
 have h1 : (List.range n).countP (fun k => decide (k = x)) = (List.range n).count x := by
  unfold List.count
  exact List.countP_congr (fun y _ => by simp)
 rw [h1]
 have h2 := (List.nodup_iff_count.1 (List.nodup_range (n := n))) x
 have h3 := List.count_pos_iff.2 (List.mem_range.2 hx)
 omega
theorem above_count : ∀ (n : Nat) {i : Int}, isNode f i = true → Up f n i → (List.range f.length).countP (fun k : Nat => belowB f k i) = n
 | 0, i, hi, hu => by have : i < 0 := hu; have := (node_iff f i).1 hi; omega
 | n + 1, i, hi, hu => by
  obtain ⟨x, rfl, hx⟩ := node_nat hi
  have hpar := h.par x hx
  by_cases hp : (at_ f (x : Int)).parent = -1
  ·have hn0 : n = 0 := by
    cases n with
    | zero => rfl
    | succ n => have := hu.2.1; omega
   subst hn0
   rw [← count_self f.length x hx, Nat.zero_add]
   refine List.countP_congr (fun k hk => ?_)
   rw [below_iff (is_may h) hi, decide_eq_true_eq]
   constructor
   ·intro hb
    by_cases e : k = x
    ·exact e
    ·rw [belowP_step (by omega) (by omega), hp] at hb
     exact absurd hb (belowP_end (by omega))
   ·rintro rfl
    exact ⟨by omega, 0, rfl⟩
  ·have hpn : isNode f (at_ f (x : Int)).parent = true := (node_iff _ _).2 ⟨by omega, hpar.2.1⟩
   have ih := above_count n hpn hu.2
   rw [countP_split (q := fun k => decide (k = x)) (r := fun k : Nat => belowB f k (at_ f (x : Int)).parent), count_self f.length x hx, ih]
   ·omega
   ·intro k hk
    have hkp := below_parent (is_may h) hi (by omega)
    refine ⟨?_, ?_⟩
    ·rw [Bool.eq_iff_iff, below_iff (is_may h) hi, Bool.or_eq_true, decide_eq_true_eq, below_iff (is_may h) hpn]
     by_cases e : k = x
     ·subst e
      exact ⟨fun _ => .inl rfl, fun _ => ⟨by omega, 0, rfl⟩⟩
     ·rw [belowP_step (by omega) (by omega)]
      exact ⟨fun h => .inr h, fun h => by
       rcases h with h | h
       ·exact absurd h e
       ·exact h⟩
    ·rintro ⟨h1, h2⟩
     obtain rfl := of_decide_eq_true h1
     rw [hkp.1] at h2
     cases h2
theorem depth_le {n : Nat} {i : Int} (hi : isNode f i = true) (hu : Up f n i) : 1 ≤ n ∧ n ≤ f.length := by
 have h1 := above_count h n hi hu
 have h2 := List.countP_le_length (p := fun k : Nat => belowB f k i) (l := List.range f.length)
 rw [List.length_range] at h2
 refine ⟨?_, by omega⟩
 cases n with
 | zero => have : i < 0 := hu; have := (node_iff f i).1 hi; omega
 | succ n => omega

theorem content_eq {i : Int} (hi : isNode f i = true) : contentL f i = ownT f i ++ (at_ f i).kids.flatMap (contentL f) := by
 unfold contentL
 rw [order_eq h.fam h.climb hi, List.flatMap_cons, List.flatMap_assoc]
theorem content_text {i : Int} (hi : isNode f i = true) (hk : (at_ f i).kind = 2) : (at_ f i).kids = [] := by
 obtain ⟨x, rfl, hx⟩ := node_nat hi
 have := (h.node x hx).1
 unfold plainB at this
 rw [if_neg (by omega), if_neg (by omega), if_pos (.inl hk)] at this
 simp only [Bool.and_eq_true, decide_eq_true_eq] at this
 exact this.2
end
theorem idxL_at {l : List Int} (hn : l.Nodup) {j : Nat} (hj : j < l.length) : idxL l l[j] = j := by
 unfold idxL
 have : l.findIdx? (fun y => y == l[j]) = some j := by
  rw [List.findIdx?_eq_some_iff_getElem]
  refine ⟨hj, by simp, fun k hk => ?_⟩
  intro he
  rw [beq_iff_eq] at he
  have := (List.getElem_inj hn).1 he
  omega
 rw [this]
theorem idxL_mem {l : List Int} {x : Int} (hx : x ∈ l) : ∃ j : Nat, ∃ hj : j < l.length, idxL l x = j ∧ l[j] = x := by
 unfold idxL
 cases hf : l.findIdx? (fun y => y == x) with
 | none =>
  rw [List.findIdx?_eq_none_iff] at hf
  have := hf x hx
  simp at this
 | some j =>
  rw [List.findIdx?_eq_some_iff_getElem] at hf
  obtain ⟨hj, h1, _⟩ := hf
  exact ⟨j, hj, rfl, by simpa using h1⟩
theorem beside_at {f : Fo} (h : IsMay f) {i p : Int} (hp : isNode f p = true) {j : Nat} (hj : j < (at_ f p).kids.length) (hi : (at_ f p).kids[j] = i) (d : Int) :
  besideE f i d = if -(j : Int) ≤ d ∧ d < (at_ f p).kids.length - (j : Int) then ((at_ f p).kids.getD ((j : Int) + d).toNat 0, 0) else (0, 3) := by
 obtain ⟨h1, h2⟩ := fam_kids h.fam hp (List.getElem_mem hj)
 rw [hi] at h1 h2
 have hx := idxL_at (kids_nodup h.fam hp) hj
 rw [hi] at hx
 have h0 := ((node_iff _ _).1 hp).1
 unfold besideE
 rw [if_neg (by rw [h1]; decide), h2, if_neg (by omega), hx]
 by_cases hc : -(j : Int) ≤ d ∧ d < (at_ f p).kids.length - (j : Int)
 ·rw [if_pos hc, if_neg (by omega)]
 ·rw [if_neg hc, if_pos (by omega)]
end Go.Proofs.YtmbhkkophkccbaaGreat.FS
end
section
namespace Go.Proofs.YtmbhkkophkccbaaGreat.Wk
open Go Go.RowKit Go.Proofs.YtmbhkkophkccbaaGreat.Seq WS FS Mem Rd Shapes Word FFam
set_option linter.unusedVariables false
set_option linter.unusedSimpArgs false

theorem node_no {f : Fo} {i : Int} (h : isNode f i = false) : i < 0 ∨ (0 ≤ i ∧ (f.length : Int) ≤ i) := by
 have : ¬ (0 ≤ i ∧ i < f.length) := fun x => by rw [(node_iff f i).2 x] at h; cases h
 omega
theorem has_no (w : World) (A : Option Addr) (n c : Nat) (i : Int) (h : i < 0 ∨ (0 ≤ i ∧ (n : Int) ≤ i)) : Calls Tryz.prog 111 #[.slice A n c, .int .i64 i] w fun e w' => e = .returned (.int .i64 70) ∧ w = w' := by
 rcases h with h | ⟨h0, h⟩
 ·go_enter Tryz.func111, Tryz.ntmps111
  go_wp2_with fail
  go_ret
  exact ⟨rfl, rfl⟩
 ·have d0 : decide (i < 0) = false := by simp; omega
  go_enter Tryz.func111, Tryz.ntmps111
  go_wp2_with fail
  go_ret
  exact ⟨rfl, rfl⟩
theorem has_yes (w : World) (A : Option Addr) (n c : Nat) (k : Nat) (h : k < n) : Calls Tryz.prog 111 #[.slice A n c, .int .i64 k] w fun e w' => e = .returned (.int .i64 0) ∧ w = w' := by
 have d0 : decide ((k : Int) < 0) = false := by simp
 have d1 : ¬ ((n : Int) ≤ (k : Int)) := by omega
 go_enter Tryz.func111, Tryz.ntmps111
 go_wp2_with fail
 go_ret
 exact ⟨rfl, rfl⟩
theorem ret_ii {a b c d : Int} (h : a = c) (k : b = d) : Ending.returned (.tuple #[.int .i64 a, .int .i64 b]) = .returned (.tuple #[.int .i64 c, .int .i64 d]) := by rw [h, k]
theorem kids_len {f : Fo} (hm : mayB f = true) {i : Int} (hi : isNode f i = true) : (at_ f i).kids.length ≤ 60 := by
 obtain ⟨k, rfl, hk⟩ := node_nat hi
 rw [at_nat hk]
 exact Work.may_kids hm _ (List.getElem_mem _)
def Fresh (B : Nat) (v : Value) : Prop := ∀ b o n c, v = .slice (some (⟨b, o, none⟩ : Addr)) n c → 0 < n → B ≤ b
theorem fresh_own {w : World} {base n sz : Nat} {e : TypeId} {v : Value} {xs : List Value} (h : w.ownsRow base e sz v n xs) : Fresh base v := fun b o m c e' h0 => (h.lt b (by rw [e']; simp [Value.ownBlock])).1
end Go.Proofs.YtmbhkkophkccbaaGreat.Wk
end
section
namespace Go.Proofs.YtmbhkkophkccbaaGreat.Thr
open Go Go.RowKit Go.Shelf WS FS Go.Proofs.YtmbhkkophkccbaaGreat.Seq SeqN SeqR Mem Rd Shapes FFam BackIt
set_option linter.unusedVariables false
set_option linter.unusedSimpArgs false
theorem wide_fn (f : FuncId) : Fence.wide.fn f = True := rfl
theorem wide_depth : Fence.wide.depth = none := rfl
theorem wide_round : Fence.wide.round = none := rfl
attribute [local go_sem] Oper.semAt_some wide_fn wide_depth wide_round

theorem leaves_marks {P : Program} {fn : Func} {tmps : Array Value} {R : Ending → World → Prop} : ∀ (Ds : List Nat) (W : World), Ds.Nodup → (∀ D ∈ Ds, W.heap[D]? = some (.deferred (some []))) →
  (∀ W', Off (fun b => b ∈ Ds) W W' → ∃ v, (results fn tmps).run P W' = .ok v W' ∧ R (.returned v) W') → LeavesInM Fence.wide 0 P fn tmps R (Ds.map CollD) .returning W
 | [], W, _, _, h => h W (Off.refl _ _)
 | D :: Ds, W, hn, hD, h => by
  rw [List.nodup_cons] at hn
  refine ⟨by simp, .inl ⟨D, _, rfl, run_takeDeferred (hD D (by simp)), ?_⟩⟩
  refine leaves_marks Ds _ hn.2 (fun E hE => (put_other (fun e : E = D => hn.1 (by rw [← e]; exact hE))).trans (hD E (by simp [hE]))) (fun W' ho => ?_)
  refine h W' (((Off.putObj (Y := fun b => b ∈ D :: Ds) W D _ (by simp))).trans (ho.mono (fun b _ hb => by simp [hb])))
theorem Backward_calls (w : World) (A : Option Addr) (n c : Nat) : Calls Tryz.prog 189 #[.slice A n c] w fun e w' => e = .returned (.func (.func 218) #[] #[.pointer (some ⟨w.heap.size, 0, none⟩)]) ∧ w.alloc (.cells #[.slice A n c] 34) = w' := by
 have hsf := Doings.store_func
 go_enter Tryz.func189, Tryz.ntmps189
 go_wp2_with fail
 go_ret
 exact ⟨rfl, rfl⟩
theorem ord_pop {f : Fo} (hf : familyB f = true) (hc : climbsP f) {i : Int} {k : Nat} {st : List Int} {x : Int} (hq : (order f i).drop k = (st ++ [x]).reverse.flatMap (order f)) (hx : isNode f x = true) :
  ∃ hk : k < (order f i).length, (order f i)[k] = x ∧ (order f i).drop (k + 1) = (st ++ (at_ f x).kids.reverse).reverse.flatMap (order f) := by
 rw [List.reverse_append, List.reverse_singleton, List.singleton_append, List.flatMap_cons, order_eq hf hc hx, List.cons_append] at hq
 have hk : k < (order f i).length := by
  rcases Nat.lt_or_ge k (order f i).length with h | h
  ·exact h
  ·rw [List.drop_eq_nil_of_le h] at hq; cases hq
 rw [List.drop_eq_getElem_cons hk] at hq
 injection hq with h1 h2
 refine ⟨hk, h1, ?_⟩
 rw [h2, List.reverse_append, List.reverse_reverse, List.flatMap_append]
theorem own_pop {W : World} {base : Nat} {g n c : Nat} {xs : List Value} (h : W.ownsRow base 3 1 (.slice (some ⟨g, 0, none⟩) (n + 1) c) (n + 1) xs) : W.ownsRow base 3 1 (.slice (some ⟨g, 0, none⟩) n c) n (xs.take n) := by
 obtain ⟨h1, h2⟩ := h
 rcases h2 with ⟨h2, h3⟩ | ⟨g', cap, cur, e, hb, hh, hc, hm, hs, ht⟩
 ·omega
 ·injection e with e1 e2 e3
  subst e3
  refine ⟨by rw [List.length_take, h1]; omega, .inr ⟨g', c, cur, by rw [e1], hb, hh, by omega, hm, hs, ?_⟩⟩
  rw [← ht, List.take_take]
  congr 1
  omega
structure TSt (W0 : World) (S : Nat) (f : Fo) (i : Int) (X : Nat → Prop) (J : Nat → (Nat → Prop) → World → Prop) (k : Nat) (st : List Int) (sv : Value) (X' : Nat → Prop) (Ds : List Nat) (W : World) : Prop where
 le : k ≤ (order f i).length
 rest : (order f i).drop k = st.reverse.flatMap (order f)
 nodes : ∀ x ∈ st, isNode f x = true
 var : W.heap[S]? = some (.cells #[sv] 34 (0, 0))
 varX : ¬ X' S
 own : W.ownsRow W0.heap.size 3 1 sv st.length (st.map (Value.int .i64))
 ownX : ∀ g, sv.ownBlock = some g → ¬ X' g ∧ g ≠ S
 ds : Ds.Nodup
 marks : ∀ D ∈ Ds, W.heap[D]? = some (.deferred (some [])) ∧ ¬ X' D ∧ W0.heap.size ≤ D
 j : J k X' W
 grew : Grew X W0 X'
 off : Off X W0 W
theorem own_form {W : World} {base : Nat} {e : TypeId} {size : Nat} {v : Value} {n : Nat} {xs : List Value} (h : W.ownsRow base e size v n xs) : ∃ A c, v = .slice A n c ∧ n ≤ c ∧ c ≤ maxLen := by
 rcases h.2 with ⟨rfl, rfl⟩ | ⟨g, cap, cur, rfl, hb, hh, hc, hm, _⟩
 ·exact ⟨_, _, rfl, Nat.le_refl _, by simp [maxLen]⟩
 ·exact ⟨_, _, rfl, hc, hm⟩
theorem own_head {W : World} {base : Nat} {e : TypeId} {size : Nat} {v : Value} {n : Nat} {xs : List Value} (h : W.ownsRow base e size v n xs) (h0 : 0 < n) : ∃ g c, v = .slice (some ⟨g, 0, none⟩) n c ∧ base ≤ g ∧ g < W.heap.size ∧ n ≤ c ∧ c ≤ maxLen ∧ ∀ j u, xs[j]? = some u → W.cell? ⟨g, j, none⟩ = some u := by
 have hl := h.lt
 have hcs := fun (g : Nat) (e : v.ownBlock = some g) => h.cells (g := g) e
 rcases h.2 with ⟨rfl, rfl⟩ | ⟨g, cap, cur, rfl, hb, hh, hc, hm, _⟩
 ·omega
 ·exact ⟨g, cap, rfl, hb, (hl g rfl).2, hc, hm, fun j u hj => by
   have := hcs g rfl j u hj
   rwa [Addr.add_lit, Nat.zero_add] at this⟩
theorem seqR_end {X X' : Nat → Prop} {W0 W W' : World} {J : Nat → (Nat → Prop) → World → Prop} {Jx : (Nat → Prop) → World → Prop} {S : Nat} {f : Fo} {i : Int} {k : Nat} {st : List Int} {sv : Value} {Ds : List Nat} {N0 : Nat} (hN : N0 ≤ W0.heap.size) (hJ : FootR (fun b => b < N0) J) (hT : TSt W0 S f i X J k st sv X' Ds W) (ho : Off (fun b => b ∈ Ds) W W') (hk : k = (order f i).length) (v : Value) :
  SeqR X (fun _ => False) W0 (J (order f i).length) Jx (.returned v) W' := by
 refine ⟨⟨_, rfl⟩, X', hT.grew, (hT.off.trans' ho (fun b hb => .inr (hT.marks b hb).2.2)).mono (fun b _ hb => .inl hb), .inl ?_⟩
 rw [← hk]
 exact hJ.1 k X' W W' hT.j (ho.mono (fun b _ hb => ⟨(hT.marks b hb).2.1, fun h => by have := (hT.marks b hb).2.2; omega⟩))
theorem kids_small {f : Fo} (h : IsMay f) {x : Int} (hx : isNode f x = true) : (at_ f x).kids.length ≤ 60 := Wk.kids_len (is_may h) hx
theorem stack_len {f : Fo} (h : IsMay f) {i : Int} (hi : isNode f i = true) {k : Nat} {st : List Int} (hq : (order f i).drop k = st.reverse.flatMap (order f)) (hn : ∀ x ∈ st, isNode f x = true) : st.length ≤ 60 := by
 have h1 := order_len h.fam h.climb hi
 have h2 : (st.reverse.flatMap (order f)).length ≤ 60 := by rw [← hq, List.length_drop]; have := h.len; omega
 have h3 : ∀ (l : List Int), (∀ x ∈ l, isNode f x = true) → l.length ≤ (l.flatMap (order f)).length := by
  intro l
  induction l with
  | nil => exact fun _ => Nat.le_refl _
  | cons x l ih =>
   intro hl
   rw [List.flatMap_cons, List.length_append, List.length_cons]
   have := ih (fun y hy => hl y (by simp [hy]))
   have : 1 ≤ (order f x).length := by rw [order_eq h.fam h.climb (hl x (by simp))]; simp
   omega
 have := h3 st.reverse (fun x hx => hn x (by simpa using hx))
 rw [List.length_reverse] at this
 omega

def thrW (bi bf N0 : Nat) (i : Int) (v : Value) (f : Fo) (W : World) : Prop := W.heap[bi]? = some (.cells #[.int .i64 i] 3 (0, 0)) ∧ W.heap[bf]? = some (.cells #[v] 29 (0, 0)) ∧ RdF N0 W v f ∧ N0 ≤ W.heap.size
set_option maxRecDepth 100000 in
set_option maxHeartbeats 8000000 in
theorem through_seqR (f : Fo) (hm : mayB f = true) (i : Int) (hi : isNode f i = true) (hwi : (Lit.int .i64 i).wf = true) (N0 bi bf : Nat) (hbi : N0 ≤ bi) (hbf : N0 ≤ bf) (v : Value) :
  SeqCR Tryz.prog 188 #[.pointer (some ⟨bi, 0, none⟩), .pointer (some ⟨bf, 0, none⟩)] ((order f i).map (Value.int .i64)) (fun _ => False) (fun b => b < N0 ∨ b = bi ∨ b = bf) (fun b => b < N0) (thrW bi bf N0 i v f) := by
 intro l J Jx X W0 hW hJ hJx hX h0 hY
 obtain ⟨hbxi, hbxf, hrd, hN⟩ := hW
 obtain ⟨A0, c0, rfl, hl0, hc0, _⟩ := hrd.form
 simp only [maxLen] at hc0
 have hM := may_is hm
 have hXN : ∀ b, X b → N0 ≤ b := fun b hb => by have := (hX b hb).2; omega
 have hkeep : ∀ W', Off X W0 W' → W'.cell? ⟨bi, 0, none⟩ = some (.int .i64 i) ∧ W'.cell? ⟨bf, 0, none⟩ = some (.slice A0 f.length c0) ∧ RdF N0 W' (.slice A0 f.length c0) f := fun W' ho =>
  ⟨(World.cell?_of_block (ho.block bi (lt_heap hbxi) (fun h => by have := (hX bi h).2; omega))).trans (cell_of hbxi), (World.cell?_of_block (ho.block bf (lt_heap hbxf) (fun h => by have := (hX bf h).2; omega))).trans (cell_of hbxf), hrd.keep nodeE_keeps (below_off ho hN hXN) (Nat.le_refl _)⟩
 obtain ⟨ci, _, _⟩ := hkeep W0 (Off.refl _ _)
 have hXlt : ∀ b, X b → b < W0.heap.size := fun b hb => hJ.2 0 X W0 b h0 hb
 obtain ⟨S, hS⟩ : ∃ S, S = W0.heap.size + 1 := ⟨_, rfl⟩
 obtain ⟨W1, hW1⟩ : ∃ W1, (W0.alloc (.cells #[.int .i64 i] 3)).alloc (.cells #[.slice (some ⟨W0.heap.size, 0, none⟩) 1 1] 34) = W1 := ⟨_, rfl⟩
 have hoff1 : Off X W0 W1 := by rw [← hW1]; exact (Off.alloc _ _ _).trans (Off.alloc _ _ _)
 have hT1 : TSt W0 S f i X J 0 [i] (.slice (some ⟨W0.heap.size, 0, none⟩) 1 1) X [] W1 := by
  refine ⟨Nat.zero_le _, by simp, by simpa using hi, ?_, fun h => by have := hXlt _ h; omega, ?_, ?_, by simp, by simp, hJ.1 0 X W0 W1 h0 (by rw [← hW1]; exact (Off.alloc _ _ _).trans (Off.alloc _ _ _)), Grew.refl _ _, hoff1⟩
  ·rw [← hW1, hS]
   have := World.alloc_heap_new (W0.alloc (.cells #[.int .i64 i] 3)) (.cells #[.slice (some ⟨W0.heap.size, 0, none⟩) 1 1] 34)
   rwa [World.size_alloc] at this
  ·rw [← hW1]
   exact (World.ownsRow_lit (base := W0.heap.size) (e := 3) (size := 1) W0 #[.int .i64 i] 1 (Nat.le_refl _) (by simp [maxLen]) rfl).alloc _
  ·intro g hg
   simp only [Value.ownBlock] at hg
   injection hg with hg
   have hg2 : W0.heap.size = g := hg
   exact ⟨fun h => by have := hXlt _ h; omega, by omega⟩
 have hns : N0 ≤ S := by omega
 have hs1 : W0.heap.size ≤ S := by omega
 refine callsIn_of_wp_marks Tryz.func188 rfl trivial ?_ rfl
 simp only [Tryz.ntmps188, List.size_toArray, List.length_cons, List.length_nil, Nat.reduceAdd, Nat.reduceSub, Array.replicate_succ, Array.replicate_zero, List.push_toArray, List.append_toArray, List.nil_append, List.cons_append]
 have HJ := Lib.hid hJ; have HJx := Lib.hid hJx; have HX := Lib.hid hX; have HY := Lib.hid hY; have H0 := Lib.hid h0; have Hkeep := Lib.hid hkeep; have HT1 := Lib.hid hT1; have HM := Lib.hid hM; have HS := Lib.hid hS; have HW1 := Lib.hid hW1; have HXlt := Lib.hid hXlt; have HXN := Lib.hid hXN; have Hi := Lib.hid hi
 clear hJ hJx hX hY h0 hbxi hbxf hrd hkeep hXN hT1 hM hoff1 hW1 hXlt hi hm
 gi_wp2
 rw [HW1.out, ← HS.out]
 clear hS

 refine wpIn_loop_ghost_k (fun n a W => ∃ (u5 u6 u7 u8 u9 u10 u11 u12 u13 u14 u15 u16 u17 u18 u19 u20 u21 u22 u23 u24 u25 u26 u27 u28 u29 u30 u31 u32 u33 u34 u35 u36 u37 u38 u39 : Value) (k : Nat) (st : List Int) (sv : Value) (X' : Nat → Prop) (Ds : List Nat), n = (order f i).length - k ∧ TSt W0 S f i X J k st sv X' Ds W ∧ a = { tmps := #[.func (.yield l) #[] #[], .pointer (some ⟨bi, 0, none⟩), .pointer (some ⟨bf, 0, none⟩), undef, .pointer (some ⟨S, 0, none⟩), u5, u6, u7, u8, u9, u10, u11, u12, u13, u14, u15, u16, u17, u18, u19, u20, u21, u22, u23, u24, u25, u26, u27, u28, u29, u30, u31, u32, u33, u34, u35, u36, u37, u38, u39], defers := Ds.map CollD }) (order f i).length ?start ?round
 case start =>
  (repeat apply Exists.intro)
  exact ⟨rfl, HT1.out, rfl⟩
 case round =>
  intro n a W hinv
  obtain ⟨u5, u6, u7, u8, u9, u10, u11, u12, u13, u14, u15, u16, u17, u18, u19, u20, u21, u22, u23, u24, u25, u26, u27, u28, u29, u30, u31, u32, u33, u34, u35, u36, u37, u38, u39, k, st, sv, X', Ds, hn, hT, rfl⟩ := hinv
  intro J0 K0 hJ0 hK0
  have HJ0 := Lib.hid hJ0
  have cv := cell_of hT.var
  have cvf := free_of hT.var 0
  obtain ⟨ci', cf', hr'⟩ := Hkeep.out W hT.off
  have HT := Lib.hid hT; have Hr' := Lib.hid hr'; have Hn := Lib.hid hn
  clear hT hr' hn hJ0 ci
  rcases List.eq_nil_or_concat st with rfl | ⟨st', x, he⟩
  ·obtain ⟨A, c, rfl, _, _⟩ := own_form HT.out.own
   rw [List.length_nil] at cv
   have hkl : k = (order f i).length := by
    have h1 := HT.out.rest
    have h2 := HT.out.le
    simp only [List.reverse_nil, List.flatMap_nil, List.drop_eq_nil_iff] at h1
    omega
   have Hkl := Lib.hid hkl
   clear hkl
   gi_wp2
   exact leaves_marks Ds W HT.out.ds (fun D hD => (HT.out.marks D hD).1) (fun W' ho => ⟨_, results_none rfl _ _ _, seqR_end hN HJ.out HT.out ho Hkl.out _⟩)
  ·rw [List.concat_eq_append] at he
   subst he
   have hln : (st' ++ [x]).length = st'.length + 1 := by simp
   have hown := HT.out.own
   rw [hln] at hown
   obtain ⟨g, c, rfl, hgb, hgl, hgc, hgm, hcell⟩ := own_head hown (by omega)
   have htop := hcell st'.length (.int .i64 x) (by simp)
   have hnx : isNode f x = true := HT.out.nodes x (by simp)
   obtain ⟨hk, hkx, hrest⟩ := ord_pop HM.out.fam HM.out.climb HT.out.rest hnx
   have hsl := stack_len HM.out Hi.out HT.out.rest HT.out.nodes
   rw [hln] at hsl
   have hox := HT.out.ownX g rfl
   have hop := own_pop hown
   have htk : ((st' ++ [x]).map (Value.int .i64)).take st'.length = st'.map (Value.int .i64) := by simp
   rw [htk] at hop
   obtain ⟨W2, hW2⟩ : ∃ W2, W.setCell ⟨S, 0, none⟩ (.slice (some ⟨g, 0, none⟩) st'.length c) = W2 := ⟨_, rfl⟩
   have hvar2 : W2.heap[S]? = some (.cells #[.slice (some ⟨g, 0, none⟩) st'.length c] 34 (0, 0)) := by rw [← hW2]; exact set_one HT.out.var
   have hoff2 : Off (fun b => b = S) W W2 := by rw [← hW2]; exact Off.setCell _ _ _ rfl
   have hj2 := HJ.out.1 k X' W W2 HT.out.j (hoff2.mono (fun b _ hb => hb ▸ ⟨HT.out.varX, fun h => by have : S < N0 := h; omega⟩))
   have hop2 : W2.ownsRow W0.heap.size 3 1 (.slice (some ⟨g, 0, none⟩) st'.length c) st'.length (st'.map (Value.int .i64)) := own_keep hop (fun b hb => hoff2.block b (hop.lt b hb).2 (fun e => by
    simp only [Value.ownBlock] at hb; injection hb with hb; exact hox.2 (hb.trans e)))
   have hmk2 : ∀ D ∈ Ds, W2.heap[D]? = some (.deferred (some [])) := fun D hD => hoff2.keep (HT.out.marks D hD).1 (fun e => by
    have h1 := (HT.out.marks D hD).1
    rw [e, HT.out.var] at h1
    cases h1)
   have hoffW2 : Off X W0 W2 := HT.out.off.trans' hoff2 (fun b hb => by rw [hb]; exact .inr hs1)
   have hkl : k < ((order f i).map (Value.int .i64)).length := by rw [List.length_map]; exact hk
   have henc : ((order f i).map (Value.int .i64))[k] = .int .i64 x := by rw [List.getElem_map, hkx]
   obtain ⟨fn, tmps, assign, body, hy, hR⟩ := HY.out k X' W2 hkl hj2
   rw [henc] at hy
   have HR := Lib.hid hR; have Hvar2 := Lib.hid hvar2; have Hoff2 := Lib.hid hoff2; have Hop2 := Lib.hid hop2; have Hmk2 := Lib.hid hmk2; have HoffW2 := Lib.hid hoffW2; have Hrest := Lib.hid hrest; have Hkl := Lib.hid hkl; have Hnx := Lib.hid hnx; have HW2 := Lib.hid hW2; have Hk := Lib.hid hk
   have hw1 : IntKind.i64.wrap (((st'.length + 1 : Nat) : Int) - 1) = (st'.length : Int) := by rw [IntKind.wrap_i64]; omega
   have hox1 := hox.1
   have hox2 := hox.2
   simp only [maxLen] at hgm
   clear hR hvar2 hoff2 hj2 hop2 hmk2 hoffW2 hrest hkl hnx hW2 henc hop htk hown hcell hln hkx hox hk
   gi_upto_region 4 with fail
   rw [HW2.out]
   gi_wp2
   refine HR.out.mono ?_
   rintro e W3 ⟨X3, hg3, ho3, h3⟩
   have hvar3 := ho3.keep Hvar2.out HT.out.varX
   have hop3 : W3.ownsRow W0.heap.size 3 1 (.slice (some ⟨g, 0, none⟩) st'.length c) st'.length (st'.map (Value.int .i64)) := own_keep Hop2.out (fun b hb => ho3.block b (Hop2.out.lt b hb).2 (fun h => by
    simp only [Value.ownBlock] at hb; injection hb with hb; exact hox1 (by have e2 : g = b := hb; rw [e2]; exact h)))
   have hmk3 : ∀ D ∈ Ds, W3.heap[D]? = some (.deferred (some [])) := fun D hD => ho3.keep (Hmk2.out D hD) (HT.out.marks D hD).2.1
   have hlS := lt_heap Hvar2.out
   have hl2g := (Hop2.out.lt g rfl).2
   have hX3S : ¬ X3 S := fun h => by
    rcases hg3 S h with h1 | h1
    ·exact HT.out.varX h1
    ·omega
   have hX3g : ¬ X3 g := fun h => by
    rcases hg3 g h with h1 | h1
    ·exact hox1 h1
    ·omega
   have hX3D : ∀ D ∈ Ds, ¬ X3 D := fun D hD h => by
    rcases hg3 D h with h1 | h1
    ·exact (HT.out.marks D hD).2.1 h1
    ·have := lt_heap (Hmk2.out D hD); omega
   have hoff3 : Off X W0 W3 := HoffW2.out.trans' ho3 (fun b hb => HT.out.grew b hb)
   have hgr3 : Grew X W0 X3 := HT.out.grew.trans hg3 HoffW2.out.size
   have hs3 := ho3.size
   have Hvar3 := Lib.hid hvar3; have Hop3 := Lib.hid hop3; have Hmk3 := Lib.hid hmk3; have HX3S := Lib.hid hX3S; have HX3g := Lib.hid hX3g; have HX3D := Lib.hid hX3D; have Hoff3 := Lib.hid hoff3; have Hgr3 := Lib.hid hgr3
   clear hvar3 hop3 hmk3 hX3S hX3g hX3D hoff3 hgr3 hg3 ho3 htop cv cvf ci' cf'
   rcases h3 with ⟨rfl, hj3⟩ | ⟨rfl, hj3⟩
   ·have Hj3 := Lib.hid hj3; clear hj3
    obtain ⟨_, cf3, hr3⟩ := Hkeep.out W3 Hoff3.out
    obtain ⟨xn, rfl, hxl⟩ := node_nat Hnx.out
    obtain ⟨b, o, Aa, ca, Ak, ck, rfl, hbl, g0, g1, g2, g3, g4, g5, ra, rk, la, lca, lk, lck, m1, m2, m3, m4⟩ := node_at hr3 hxl
    rw [← at_nat hxl] at g5 rk lk
    have hkd := kids_small HM.out Hnx.out
    have hxl2 : (xn : Int) < (f.length : Int) := by omega
    have Hrk := Lib.hid rk
    clear g0 g1 g2 g3 g4 ra rk la lca lck m1 m2 m3 m4 hr3
    generalize hkids : (at_ f (xn : Int)).kids = kids at *
    have Hkids := Lib.hid hkids
    clear hkids
    gi_wp2_with (gi_at_call 189; ((refine (callsIn_wide.2 (Backward_calls _ _ _ _)).mono ?_); rintro e w4 ⟨rfl, hw4⟩))
    have hs4 : w4.heap.size = W3.heap.size + 1 := by rw [← hw4]; simp
    have hoff4 : ∀ Y, Off Y W3 w4 := fun Y => by rw [← hw4]; exact Off.alloc _ _ _
    have hbox4 : w4.heap[W3.heap.size]? = some (.cells #[.slice Ak kids.length ck] 34 (0, 0)) := by rw [← hw4]; exact World.alloc_heap_new W3 _
    have hb34 : Below W3.heap.size W3 w4 := by rw [← hw4]; exact (Below.refl _ _).alloc (Nat.le_refl _) _
    have hlS3 := lt_heap Hvar3.out
    have hlg3 := (Hop3.out.lt g rfl).2
    have hN3 := Hoff3.out.size
    clear hw4
    refine wpIn_rangeN rfl (enters_of Tryz.func218 (by kernel_rfl) rfl) (backward_seq kids (by omega) N0 W3.heap.size (by omega) (.slice Ak kids.length ck)) (fun W ho => ⟨ho.keep hbox4 (fun h => h), Hrk.out.keep (intE_keeps _) ((hb34.mono (by omega)).trans (ho.toBelow (by omega) (fun b hb => hb.elim))) (Nat.le_refl _), by have := ho.size; omega⟩)
     (fun m X W => ∃ sv, W.heap[S]? = some (.cells #[sv] 34 (0, 0)) ∧ W.ownsRow W0.heap.size 3 1 sv ((st' ++ kids.reverse.take m).map (Value.int .i64)).length ((st' ++ kids.reverse.take m).map (Value.int .i64)) ∧ (∀ b, X b ↔ (b = S ∨ sv.ownBlock = some b)) ∧ (∀ g, sv.ownBlock = some g → g ≠ S))
     (fun c k X W => False) ?hI ?hIx (fun b => b = S ∨ b = g) ?hX ?h0 ?hYZ
     (fun m => { tmps := #[.func (.yield l) #[] #[], .pointer (some ⟨bi, 0, none⟩), .pointer (some ⟨bf, 0, none⟩), undef, .pointer (some ⟨S, 0, none⟩), .int .i64 (xn : Int), u6, .int .i64 (kids.getD (kids.length - 1 - m) 0), u8, u9, .slice (some ⟨g, 0, none⟩) (st'.length + 1) c, .int .i64 ((st'.length : Int) + 1), .bool true, .slice (some ⟨g, 0, none⟩) (st'.length + 1) c, .slice (some ⟨g, 0, none⟩) (st'.length + 1) c, .int .i64 ((st'.length : Int) + 1), .int .i64 (st'.length : Int), .pointer (some ⟨g, st'.length, none⟩), .int .i64 (xn : Int), .slice (some ⟨g, 0, none⟩) (st'.length + 1) c, .slice (some ⟨g, 0, none⟩) (st'.length + 1) c, .int .i64 ((st'.length : Int) + 1), .int .i64 (st'.length : Int), .slice (some ⟨g, 0, none⟩) st'.length c, .func (.yield l) #[] #[], .int .i64 (xn : Int), .bool true, .bool false, .slice (some ⟨b, o, none⟩) f.length c0, .int .i64 (xn : Int), .pointer (some ⟨b, o + xn * 6, none⟩), .pointer (some ⟨b, o + xn * 6 + 5, none⟩), .slice Ak kids.length ck, .func (.func 218) #[] #[.pointer (some ⟨W3.heap.size, 0, none⟩)], .int .i64 ((kids.length - 1 - m : Nat) : Int), .int .i64 (kids.getD (kids.length - 1 - m) 0), u36, u37, u38, u39], defers := [] })
     ?assign ?hsz ?body ?done ?stop
    case hI =>
     refine ⟨?_, ?_⟩
     ·rintro m X W W' ⟨sv, h1, h2, h3, h4⟩ ho
      exact ⟨sv, ho.keep h1 (fun h => h ((h3 _).2 (.inl rfl))), own_keep h2 (fun b hb => ho.block b (h2.lt b hb).2 (fun h => h ((h3 _).2 (.inr hb)))), h3, h4⟩
     ·rintro m X W b ⟨sv, h1, h2, h3, h4⟩ hb
      rcases (h3 b).1 hb with rfl | hb
      ·exact lt_heap h1
      ·exact (h2.lt b hb).2
    case hIx => exact fun c => ⟨fun _ _ _ _ h _ => h, fun _ _ _ _ h _ => h.elim⟩
    case hX =>
     intro b hb
     refine ⟨fun h => h, fun h => ?_⟩
     rcases hb with rfl | rfl <;> rcases h with h | h <;> omega
    case h0 =>
     refine ⟨_, (hoff4 (fun _ => False)).keep Hvar3.out (fun h => h), ?_, fun b => ?_, fun g' hg' => ?_⟩
     ·rw [List.take_zero, List.append_nil, List.length_map]
      exact own_keep Hop3.out (fun b hb => (hoff4 (fun _ => False)).block b (Hop3.out.lt b hb).2 (fun h => h))
     ·simp only [Value.ownBlock]
      constructor
      ·rintro (h | h)
       ·exact .inl h
       ·exact .inr (by rw [h])
      ·rintro (h | h)
       ·exact .inl h
       ·right; injection h with h; exact h.symm
     ·simp only [Value.ownBlock] at hg'
      injection hg' with hg'
      exact fun e => hox2 (hg'.trans e)
    case hYZ =>
     rintro b (h | h | h)
     ·exact h.elim
     ·omega
     ·omega
    case assign =>
     intro l' m hm' W' K hK
     rw [backE_get]
     gi_wp2
     exact hK
    case hsz =>
     intro m hm'
     rw [backE_get]
     rfl
    case body =>
     rintro l' m hm' X' W' ⟨sv, h1, h2, h3, h4⟩
     rw [backE_length] at hm'
     have hs5 := lt_heap h1
     obtain ⟨A5, n5, rfl, _, _⟩ := own_form h2
     have hc5 := cell_of h1
     have hf5 := free_of h1 0
     have hnx : (st' ++ kids.reverse.take (m + 1)) = (st' ++ kids.reverse.take m) ++ [kids.getD (kids.length - 1 - m) 0] := by
      rw [List.append_assoc]
      congr 1
      rw [List.take_succ_eq_append_getElem (by rw [List.length_reverse]; exact hm'), List.getElem_reverse, List.getD_eq_getElem?_getD, List.getElem?_eq_getElem (by omega)]
      rfl
     have hll : ((st' ++ kids.reverse.take m).map (Value.int .i64)).length ≤ 200 := by rw [List.length_map, List.length_append, List.length_take, List.length_reverse]; omega
     obtain ⟨xs, hxs⟩ : ∃ xs, xs = (st' ++ kids.reverse.take m).map (Value.int .i64) := ⟨_, rfl⟩
     rw [← hxs] at h1 h2 h3 h4 hc5 hll
     have hofX : ∀ (v1 : Value) (w1 : World), W'.grownBy w1 (Value.slice A5 xs.length n5).ownBlock → w1.heap[S]? = W'.heap[S]? := fun v1 w1 hg => hg.block S hs5 (fun e => h4 S e.symm rfl)
     have hb5 : W0.heap.size ≤ W'.heap.size := by omega
     have H2 := Lib.hid h2; have H3 := Lib.hid h3; have H4 := Lib.hid h4; have Hnx := Lib.hid hnx; have HofX := Lib.hid hofX; have H1 := Lib.hid h1; have Hxs := Lib.hid hxs
     clear h1 h2 h3 h4 hnx hofX hxs
     generalize kids.getD (kids.length - 1 - m) 0 = y at *
     gi_wp2_with (gi_at_builtin; go_loud ((refine in_append W' W0.heap.size rfl _ _ 34 3 (.int .i64 0) 8 rfl Tryz.underlying34 info_int rfl (.slice A5 xs.length n5) xs (.int .i64 y) rfl rfl rfl H2.out hb5 (by omega) (by simp only [maxLen]; omega) ?_); rintro v1 w1 hown hgrow ⟨g1, cap1, rfl, hat⟩; have hS1 := HofX.out (.bool true) w1 hgrow; have hrow1 := hS1.trans H1.out; have hr1 := cell_of hrow1; have hr2 := free_of hrow1 0; have Hown := Lib.hid hown; have Hgrow := Lib.hid hgrow; have Hat := Lib.hid hat; have Hrow1 := Lib.hid hrow1; clear hown hgrow hat hS1 hrow1))
     have hg1S : g1 ≠ S := by
      rcases Hat.out with h | h
      ·exact H4.out g1 h
      ·omega
     refine ⟨fun b => b = S ∨ b = g1, ?_, ?_, ⟨_, set_one Hrow1.out, ?_, ?_, ?_⟩⟩
     ·rintro b (rfl | rfl)
      ·exact .inl ((H3.out _).2 (.inl rfl))
      ·rcases Hat.out with h | h
       ·exact .inl ((H3.out _).2 (.inr h))
       ·exact .inr h
     ·exact (Off.grown Hgrow.out (fun r hr => (H3.out r).2 (.inr hr))).trans (Off.setCell _ _ _ ((H3.out S).2 (.inl rfl)))
     ·rw [Hnx.out, List.map_append, List.map_cons, List.map_nil, ← Hxs.out]
      have ho := Hown.out
      rw [show (xs ++ [Value.int .i64 y]).length = xs.length + 1 by simp] at ho ⊢
      refine own_keep ho (fun b hb => set_other (fun e => ?_))
      simp only [Value.ownBlock] at hb
      injection hb with hb
      exact hg1S (hb.trans e)
     ·intro b
      simp only [Value.ownBlock]
      constructor
      ·rintro (h | h)
       ·exact .inl h
       ·exact .inr (by rw [h])
      ·rintro (h | h)
       ·exact .inl h
       ·right; injection h with h; exact h.symm
     ·intro g' hg'
      simp only [Value.ownBlock] at hg'
      injection hg' with hg'
      exact fun e => hg1S (hg'.trans e)
    case done =>
     rintro D X' W' hD hXD hgr ho ⟨sv, h1, h2, h3, h4⟩ hheap
     rw [backE_length, List.take_of_length_le (by simp)] at h2
     simp only [Exit.inBlock, Exit.then]
     have hob : ∀ b, (b = S ∨ b = g) ∨ False → W0.heap.size ≤ b := by
      rintro b ((h | h) | h)
      ·omega
      ·omega
      ·exact h.elim
     have ho3 : Off (fun b => (b = S ∨ b = g) ∨ False) W3 W' := (hoff4 _).trans ho
     have hX3l : ∀ b, X3 b → b < W3.heap.size := fun b hb => HJ.out.2 (k + 1) X3 W3 b Hj3.out hb
     have hT' : TSt W0 S f i X J (k + 1) (st' ++ kids.reverse) sv X3 (D :: Ds) W' := by
      refine ⟨Hk.out, Hrest.out, ?_, h1, HX3S.out, ?_, ?_, ?_, ?_, HJ.out.1 (k + 1) X3 W3 W' Hj3.out (ho3.mono (fun b _ hb => ⟨?_, fun h => by have : b < N0 := h; have := hob b hb; omega⟩)), Hgr3.out, Hoff3.out.trans' ho3 (fun b hb => .inr (hob b hb))⟩
      ·intro y hy
       rcases List.mem_append.1 hy with h | h
       ·exact HT.out.nodes y (by simp [h])
       ·exact (fam_kids HM.out.fam Hnx.out (by rw [Hkids.out]; simpa using h)).1
      ·rw [List.length_map] at h2
       exact h2
      ·intro g' hg'
       refine ⟨fun hx => ?_, h4 g' hg'⟩
       rcases hgr g' ((h3 g').2 (.inr hg')) with (h | h) | h
       ·exact h4 g' hg' h
       ·exact HX3g.out (h ▸ hx)
       ·have := hX3l g' hx; omega
      ·rw [List.nodup_cons]
       exact ⟨fun hm' => by have := lt_heap (Hmk3.out D hm'); omega, HT.out.ds⟩
      ·intro E hE
       rcases List.mem_cons.1 hE with rfl | hE
       ·exact ⟨hheap, fun hx => by have := hX3l _ hx; omega, by omega⟩
       ·refine ⟨ho3.keep (Hmk3.out E hE) ?_, HX3D.out E hE, (HT.out.marks E hE).2.2⟩
        have hm := Hmk3.out E hE
        rintro ((rfl | rfl) | h)
        ·rw [Hvar3.out] at hm; cases hm
        ·obtain ⟨cur, t, hc⟩ : ∃ cur t, W3.heap[E]? = some (.cells cur t (0, 0)) := by
          rcases Hop3.out.2 with ⟨e, _⟩ | ⟨g', cap, cur, e, _, hh, _⟩
          ·cases e
          ·injection e with e1 _ _
           injection e1 with e1
           injection e1 with e1 _ _
           exact ⟨cur, _, by rw [e1]; exact hh⟩
         rw [hc] at hm; cases hm
        ·exact h
      ·rcases hb with (rfl | rfl) | h
       ·exact HX3S.out
       ·exact HX3g.out
       ·exact h.elim
     refine hK0 _ _ (Handed.intro ((order f i).length - (k + 1)) ?_ (HJ0.out _ _ _ ?_))
     ·have := Hk.out; have := Hn.out; omega
     ·(repeat apply Exists.intro)
      exact ⟨rfl, hT', rfl⟩
    case stop => exact fun D c k X' W _ _ _ _ _ h _ => h.elim
   ·have Hj3 := Lib.hid hj3; clear hj3
    gi_wp2
    refine leaves_marks Ds W3 HT.out.ds Hmk3.out (fun W' ho => ⟨_, results_none rfl _ _ _, ⟨_, rfl⟩, X3, Hgr3.out, ((Hoff3.out.trans' ho (fun b hb => .inr (HT.out.marks b hb).2.2)).mono (fun b _ hb => .inl hb)), .inr ⟨k, by rw [List.length_map]; exact Hk.out, HJx.out.1 k X3 W3 W' Hj3.out (ho.mono (fun b _ hb => ⟨HX3D.out b hb, fun h => by have : b < N0 := h; have := (HT.out.marks b hb).2.2; omega⟩))⟩⟩)
theorem through_seq (f : Fo) (hm : mayB f = true) (i : Int) (hi : isNode f i = true) (hwi : (Lit.int .i64 i).wf = true) (N0 bi bf : Nat) (hbi : N0 ≤ bi) (hbf : N0 ≤ bf) (v : Value) :
  SeqC Tryz.prog 188 #[.pointer (some ⟨bi, 0, none⟩), .pointer (some ⟨bf, 0, none⟩)] ((order f i).map (Value.int .i64)) (fun _ => False) (fun b => b < N0 ∨ b = bi ∨ b = bf) (thrW bi bf N0 i v f) :=
 (through_seqR f hm i hi hwi N0 bi bf hbi hbf v).plain
end Go.Proofs.YtmbhkkophkccbaaGreat.Thr
end
section
namespace Go.Proofs.YtmbhkkophkccbaaGreat.Wk
open Go Go.RowKit Go.Proofs.YtmbhkkophkccbaaGreat.Seq WS FS Mem Rd Shapes Word FFam Work FAttr
set_option linter.unusedVariables false
set_option linter.unusedSimpArgs false

theorem through_calls (w : World) (A : Option Addr) (n c : Nat) (i : Int) : Calls Tryz.prog 112 #[.slice A n c, .int .i64 i] w fun e w' =>
  e = .returned (.func (.func 188) #[] #[.pointer (some ⟨w.heap.size + 1, 0, none⟩), .pointer (some ⟨w.heap.size, 0, none⟩)]) ∧ (w.alloc (.cells #[.slice A n c] 29)).alloc (.cells #[.int .i64 i] 3) = w' := by
 go_enter Tryz.func112, Tryz.ntmps112
 go_wp2_with fail
 go_ret
 exact ⟨rfl, rfl⟩
theorem attr1_calls (w : World) (nm : ByteArray) (bx : Nat) (hb : w.cell? ⟨bx, 0, none⟩ = some (.string nm)) (a : Av) :
  Calls Tryz.prog 139 #[.agg #[.string a.name, .string a.value], .pointer (some ⟨bx, 0, none⟩)] w fun e w' => e = .returned (.bool (decide (a.name = nm))) ∧ Below w.heap.size w w' := by
 obtain ⟨an, av⟩ := a
 simp only
 obtain ⟨w1, hw1⟩ : ∃ w1, w.alloc (.cells #[.string an, .string av] 112) = w1 := ⟨_, rfl⟩
 have hb1 : Below w.heap.size w w1 := by rw [← hw1]; exact (Below.refl _ _).alloc (Nat.le_refl _) _
 have p0 := cell_grow hb1 hb
 have q : w1.cell? ⟨w.heap.size, 0, none⟩ = some (.string an) := by rw [← hw1]; exact (cell_of_row _ _ _ _ _ _ (World.alloc_heap_new _ _)).trans rfl
 have Hb1 := Lib.hid hb1; have Hw1 := Lib.hid hw1
 clear hb1 hw1 hb
 go_enter Tryz.func139, Tryz.ntmps139
 go_upto_region 1 with fail
 rw [Hw1.out]
 go_wp2_with fail
 go_ret
 exact ⟨ret_bool (FSame.str_beq _ _), Hb1.out⟩
theorem IndexFuncW_calls (w : World) (v : Value) (l : List Av) (h : RdL attrE 2 w.heap.size w v l) (p : Av → Bool) (bx : Value)
  (hp : ∀ w', Below w.heap.size w w' → ∀ a : Av, Calls Tryz.prog 139 #[.agg #[.string a.name, .string a.value], bx] w' fun e w'' => e = .returned (.bool (p a)) ∧ Below w'.heap.size w' w'') :
  Calls Tryz.prog 138 #[v, .func (.func 139) #[] #[bx]] w fun e w' => e = .returned (.int .i64 (idxP l p)) ∧ Below w.heap.size w w' := by
 have HR := Lib.hid (fun w' hb => h.below attrE_keeps (w' := w') hb (Nat.le_refl _))
 obtain ⟨A0, c0, rfl, hl0, hc0, _⟩ := h.form
 simp only [maxLen] at hc0
 have Hp := Lib.hid hp
 clear h hp
 go_enter Tryz.func138, Tryz.ntmps138
 go_wp2_with fail
 go_loopw [8] (fun i wr => ∃ k : Nat, k ≤ l.length ∧ i = .int .i64 k ∧ Below w.heap.size w wr ∧ Hid (∀ j (hj : j < l.length), j < k → p l[j] = false)) (fun i _ => l.length - (intOf i).toNat)
 case atStart => exact ⟨0, Nat.zero_le _, rfl, Below.refl _ _, Lib.hid (fun j _ h => absurd h (Nat.not_lt_zero _))⟩
 case round =>
  obtain ⟨k, hk, rfl, hb, hn⟩ := hrel
  by_cases hlt : k < l.length
  ·obtain ⟨b, o, rfl, hbl, g0, g1, m0, m1⟩ := attr_at (HR.out _ hb) hlt
   have hc := Hp.out wr hb l[k]
   have Hb := Lib.hid hb
   cases hx : p l[k] with
   | true =>
    rw [hx] at hc
    have hr := idxP_hit hlt hx hn.out
    have Hr := Lib.hid hr; have Hc := Lib.hid hc
    clear hr hx hc hb m0 m1
    generalize l[k] = a at *
    go_wp2_with (go_at_call 139; (with_reducible refine (Hc.out).mono ?_); rintro e w5 ⟨rfl, hb5⟩; have Hb5 := Lib.hid hb5; clear hb5)
    go_ret
    exact ⟨ret_i Hr.out.symm, bthen Hb.out Hb5.out⟩
   | false =>
    rw [hx] at hc
    have hn2 : ∀ j (hj : j < l.length), j < k + 1 → p l[j] = false := fun j hj hjk => by
     by_cases e : j = k
     ·subst e; exact hx
     ·exact hn.out j hj (by omega)
    have Hn2 := Lib.hid hn2; have Hc := Lib.hid hc
    clear hn2 hx hc hb m0 m1
    generalize l[k] = a at *
    go_wp2_with (go_at_call 139; (with_reducible refine (Hc.out).mono ?_); rintro e w5 ⟨rfl, hb5⟩; have Hb5 := Lib.hid hb5; clear hb5)
    go_roundw
    case rel => exact ⟨k + 1, by omega, by go_num, bthen Hb.out Hb5.out, Hn2⟩
    case measure => simp [intOf]; omega
  ·have hr := idxP_none (l := l) (p := p) (fun j hj => hn.out j hj (by omega))
   have Hr := Lib.hid hr; have Hb := Lib.hid hb
   clear hr hb
   go_wp2_with fail
   go_ret
   exact ⟨ret_i Hr.out.symm, Hb.out⟩
theorem findV {l : List Av} {s : ByteArray} : (l.find? (fun a => decide (a.name = s))).map (·.value) = match findA l s with | some j => (l[j]?).map (·.value) | none => none := by
 unfold findA
 induction l with
 | nil => rfl
 | cons a l ih =>
  rw [List.find?_cons, List.findIdx?_cons]
  by_cases h : a.name = s
  ·simp [h]
  ·simp only [decide_eq_false h]
   rw [ih]
   cases l.findIdx? (fun a => decide (a.name = s)) <;> simp
def AttrPost (f : Fo) (i : Int) (s : ByteArray) (w : World) (e : Ending) (w' : World) : Prop := e = .returned (.tuple #[.string (attrVal f i s), .int .i64 (attrErr f i s)]) ∧ Below w.heap.size w w'
theorem ret_si {a c : ByteArray} {b d : Int} (h : a = c) (k : b = d) : Ending.returned (.tuple #[.string a, .int .i64 b]) = .returned (.tuple #[.string c, .int .i64 d]) := by rw [h, k]
theorem attr_bad {f : Fo} {i : Int} {s : ByteArray} {e : Int} (h : attrErr f i s = e) (he : e ≠ 0) : attrVal f i s = ⟨#[]⟩ := by unfold attrVal; rw [h, if_neg he]
set_option maxRecDepth 100000 in
set_option maxHeartbeats 4000000 in
theorem Attr_calls (w : World) (v : Value) (f : Fo) (h : RdF w.heap.size w v f) (i : Int) (s : ByteArray) : Calls Tryz.prog 75 #[v, .int .i64 i, .string s] w (AttrPost f i s w) := by
 have hrd := fun w' (hb : Below w.heap.size w w') => h.below nodeE_keeps (w' := w') hb (Nat.le_refl _)
 obtain ⟨A0, c0, rfl, hl0, hc0, _⟩ := h.form
 simp only [maxLen] at hc0
 obtain ⟨w1, hw1⟩ : ∃ w1, w.alloc (.cells #[.string s] 9) = w1 := ⟨_, rfl⟩
 have hb1 : Below w.heap.size w w1 := by rw [← hw1]; exact (Below.refl _ _).alloc (Nat.le_refl _) _
 have q : w1.cell? ⟨w.heap.size, 0, none⟩ = some (.string s) := by rw [← hw1]; exact (cell_of_row _ _ _ _ _ _ (World.alloc_heap_new _ _)).trans rfl
 have hr1 := hrd w1 hb1
 have hs1 : w.heap.size ≤ w1.heap.size := hb1.size
 have Hb1 := Lib.hid hb1; have Hw1 := Lib.hid hw1; have Hq := Lib.hid q
 clear hb1 hw1 h hrd q
 cases hn : isNode f i with
 | false =>
  have hh := has_no w1 A0 f.length c0 i (node_no hn)
  have hE : attrErr f i s = 70 := by unfold attrErr; rw [if_pos hn]
  have hV := attr_bad hE (by decide)
  have Hh := Lib.hid hh; have HE := Lib.hid hE; have HV := Lib.hid hV
  clear hh hn hE hV hr1
  go_enter Tryz.func75, Tryz.ntmps75
  go_upto_region 1 with fail
  rw [Hw1.out]
  go_wp2_with (go_at_call 111; ((with_reducible refine (Hh.out).mono ?_); rintro e w5 ⟨rfl, rfl⟩))
  go_ret2
  exact ⟨ret_si HV.out.symm HE.out.symm, Hb1.out⟩
 | true =>
  obtain ⟨k, rfl, hk⟩ := node_nat hn
  have hh := has_yes w1 A0 f.length c0 k hk
  obtain ⟨b, o, Aa, ca, Ak, ck, rfl, hbl, g0, g1, g2, g3, g4, g5, ra, rk, la, lca, lk, lck, m1, m2, m3, m4⟩ := node_at hr1 hk
  rw [← at_nat hk] at g0 g3 ra la
  by_cases hp : (at_ f (k : Int)).kind = 1
  ·rw [hp] at g0
   have hix := IndexFuncW_calls w1 _ _ (ra.mono attrE_keeps hs1) (fun a => decide (a.name = s)) (.pointer (some ⟨w.heap.size, 0, none⟩)) (fun w' hb a => attr1_calls w' s w.heap.size (cell_grow hb Hq.out) a)
   have hfv := findV (l := (at_ f (k : Int)).attrs) (s := s)
   have hsf := Doings.store_func
   cases hfa : findA (at_ f (k : Int)).attrs s with
   | none =>
    have hix0 : idxP (at_ f (k : Int)).attrs (fun a => decide (a.name = s)) = -1 := by unfold idxP; rw [show (at_ f (k : Int)).attrs.findIdx? (fun a => decide (a.name = s)) = none from hfa]
    rw [hix0] at hix
    rw [hfa] at hfv
    have hE : attrErr f k s = 75 := by
     unfold attrErr attrV
     rw [if_neg (by rw [hn]; decide), if_neg (fun x => x hp), hfv]
     rfl
    have hV := attr_bad hE (by decide)
    have Hh := Lib.hid hh; have HE := Lib.hid hE; have HV := Lib.hid hV; have Hix := Lib.hid hix
    clear hh hn hE hV hr1 hix hfv hfa hix0 hp ra rk la lca lk lck m1 m2 m3 m4 g1 g2 g4 g5
    go_enter Tryz.func75, Tryz.ntmps75
    go_upto_region 1 with fail
    rw [Hw1.out]
    go_wp2_with (first | (go_at_call 111; ((with_reducible refine (Hh.out).mono ?_); rintro e w5 ⟨rfl, rfl⟩)) | (go_at_call 138; ((with_reducible refine (Hix.out).mono ?_); rintro e w6 ⟨rfl, hb6⟩; have Hb6 := Lib.hid hb6; clear hb6)))
    go_ret2
    exact ⟨ret_si HV.out.symm HE.out.symm, bthen Hb1.out Hb6.out⟩
   | some j =>
    have hix0 : idxP (at_ f (k : Int)).attrs (fun a => decide (a.name = s)) = (j : Int) := by unfold idxP; rw [show (at_ f (k : Int)).attrs.findIdx? (fun a => decide (a.name = s)) = some j from hfa]
    rw [hix0] at hix
    rw [hfa] at hfv
    obtain ⟨hj, hjn⟩ := findA_some hfa
    simp only [List.getElem?_eq_getElem hj, Option.map_some] at hfv
    have hE : attrErr f k s = 0 := by
     unfold attrErr attrV
     rw [if_neg (by rw [hn]; decide), if_neg (fun x => x hp), hfv]
     rfl
    have hV : attrVal f k s = (at_ f (k : Int)).attrs[j].value := by
     unfold attrVal
     rw [if_pos hE]
     unfold attrV
     rw [hfv]
     rfl
    have hat := fun w' (hb : Below w1.heap.size w1 w') => attr_at ((ra.mono attrE_keeps hs1).below attrE_keeps hb (Nat.le_refl _)) hj
    obtain ⟨b2, o2, rfl, _, _, _, _, _⟩ := hat w1 (Below.refl _ _)
    have hat2 : ∀ w', Below w1.heap.size w1 w' → w'.cell? ⟨b2, o2 + j * 2 + 1, none⟩ = some (.string (at_ f (k : Int)).attrs[j].value) := fun w' hb => by
     obtain ⟨b3, o3, e3, _, _, q, _, _⟩ := hat w' hb
     injection e3 with e3
     injection e3 with e3 e4 _
     rw [e3, e4]
     exact q
    have hj0 : decide ((j : Int) < 0) = false := by simp
    have hjl : (j : Int) < ((at_ f (k : Int)).attrs.length : Int) := by omega
    have Hh := Lib.hid hh; have HE := Lib.hid hE; have HV := Lib.hid hV; have Hix := Lib.hid hix; have Hat := Lib.hid hat2
    clear hh hn hE hV hr1 hix hfv hfa hix0 hp ra rk lca lk lck m1 m2 m3 m4 g1 g2 g4 g5 hat hat2 hjn
    generalize (at_ f (k : Int)).attrs[j].value = vv at *
    go_enter Tryz.func75, Tryz.ntmps75
    go_upto_region 1 with fail
    rw [Hw1.out]
    go_wp2_with (first | (go_at_call 111; ((with_reducible refine (Hh.out).mono ?_); rintro e w5 ⟨rfl, rfl⟩)) | (go_at_call 138; ((with_reducible refine (Hix.out).mono ?_); rintro e w6 ⟨rfl, hb6⟩; have p6 := Hat.out _ hb6; have Hb6 := Lib.hid hb6; clear hb6)))
    go_ret2
    exact ⟨ret_si HV.out.symm HE.out.symm, bthen Hb1.out Hb6.out⟩
  ·have hE : attrErr f k s = 71 := by unfold attrErr; rw [if_neg (by rw [hn]; decide), if_pos hp]
   have hV := attr_bad hE (by decide)
   have hp1 : ((at_ f (k : Int)).kind != 1) = true := by rw [bne_iff_ne]; exact hp
   have Hh := Lib.hid hh; have HE := Lib.hid hE; have HV := Lib.hid hV
   clear hh hn hE hV hr1 hp ra rk la lca lk lck m1 m2 m3 m4 g1 g2 g3 g4 g5
   go_enter Tryz.func75, Tryz.ntmps75
   go_upto_region 1 with fail
   rw [Hw1.out]
   go_wp2_with (go_at_call 111; ((with_reducible refine (Hh.out).mono ?_); rintro e w5 ⟨rfl, rfl⟩))
   go_ret2
   exact ⟨ret_si HV.out.symm HE.out.symm, Hb1.out⟩
end Go.Proofs.YtmbhkkophkccbaaGreat.Wk
end
