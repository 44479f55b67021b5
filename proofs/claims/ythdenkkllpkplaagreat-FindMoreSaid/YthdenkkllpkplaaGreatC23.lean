/- Joined by a program: FnP, FnId, WkE, Few, FnO, FnL. -/
import Derived.Test.YthdenkkllpkplaaGreatC22
import Derived.Test.YthdenkkllpkplaaGreatC21
import Derived.Test.YthdenkkllpkplaaGreatC02
import Derived.Test.YthdenkkllpkplaaGreatC14
import Derived.Test.YthdenkkllpkplaaGreatC09
section
/- find: rows of one step, and of two; selectors of two. No program. -/
namespace Go.Proofs.YthdenkkllpkplaaGreat.Fi
open Go Go.RowKit Go.Proofs.YthdenkkllpkplaaGreat.WS Go.Proofs.YthdenkkllpkplaaGreat.FS Go.Proofs.YthdenkkllpkplaaGreat.Fn Go.Proofs.YthdenkkllpkplaaGreat.Pa Go.Proofs.YthdenkkllpkplaaGreat.Grown
set_option linter.unusedVariables false
theorem getD_rev {l : List Int} {k : Nat} (hk : k < l.length) : l.reverse.getD k 0 = l.getD (l.length - 1 - k) 0 := by
  rw [List.getD_eq_getElem?_getD, List.getElem?_reverse hk, List.getD_eq_getElem?_getD]
theorem one_step (f : Fo) (x : Stp) (way : List Int) (now : List Bool) {k : Nat} (hk : k < way.length) : (stepL f x true way now).getD k false = fitsC (at_ f (way.getD k 0)) x.c := by
  unfold stepL
  rw [List.getD_eq_getElem?_getD, List.getElem?_map, List.getElem?_range hk]
  simp
theorem one_ends (f : Fo) (n : Nat) (i : Int) (hn : 1 ≤ n) (x : Stp) : endsB f (upL f n i).reverse [x] = fitsC (at_ f i) x.c := by
  obtain ⟨m, rfl⟩ : ∃ m, n = m + 1 := ⟨n - 1, by omega⟩
  have hl : (upL f (m + 1) i).reverse.length = m + 1 := by rw [List.length_reverse, up_len]
  unfold endsB endsL endsL
  rw [hl, one_step _ _ _ _ (by omega), getD_rev (by rw [up_len]; omega), up_len]
  simp [upL]
/-- The nodes on the way above. -/
theorem two_ends (f : Fo) (n : Nat) (i : Int) (x y : Stp) : endsB f (upL f (n + 1) i).reverse [x, y] = ((if y.child then decide (0 < n) && fitsC (at_ f (at_ f i).parent) x.c else (upL f n (at_ f i).parent).any (fun k => fitsC (at_ f k) x.c)) && fitsC (at_ f i) y.c) := by
  have hl : (upL f (n + 1) i).reverse.length = n + 1 := by rw [List.length_reverse, up_len]
  unfold endsB endsL endsL endsL
  rw [hl]
  obtain ⟨now, hnow⟩ : ∃ now, now = stepL f x true (upL f (n + 1) i).reverse (List.replicate (n + 1) false) := ⟨_, rfl⟩
  rw [← hnow]
  have hg : (upL f (n + 1) i).reverse.getD n 0 = i := by
    rw [getD_rev (by rw [up_len]; omega), up_len]
    simp [upL]
  have hnl : now = (upL f (n + 1) i).reverse.map (fun k => fitsC (at_ f k) x.c) := by
    rw [hnow]
    refine List.ext_getElem (by rw [stepL_length, List.length_map]) (fun k h1 h2 => ?_)
    rw [stepL_length] at h1
    have := one_step f x (upL f (n + 1) i).reverse (List.replicate (n + 1) false) h1
    rw [List.getD_eq_getElem?_getD, List.getElem?_eq_getElem (by rw [stepL_length]; exact h1), Option.getD_some, List.getD_eq_getElem?_getD, List.getElem?_eq_getElem h1, Option.getD_some] at this
    rw [this, List.getElem_map]
  have e : stepL f y false (upL f (n + 1) i).reverse now = (List.range (n + 1)).map (fun k => (if y.child then decide (0 < k) && now.getD (k - 1) false else (now.take k).any id) && fitsC (at_ f ((upL f (n + 1) i).reverse.getD k 0)) y.c) := by
    unfold stepL
    rw [hl]
    simp
  rw [e, List.getD_eq_getElem?_getD, List.getElem?_map, List.getElem?_range (by omega)]
  simp only [Nat.add_sub_cancel, Option.map_some, Option.getD_some, hg]
  have hch : (decide (0 < n) && now.getD (n - 1) false) = (decide (0 < n) && fitsC (at_ f (at_ f i).parent) x.c) := by
    cases n with
    | zero => rfl
    | succ m =>
      simp only [Nat.add_sub_cancel]
      congr 1
      rw [hnl, List.getD_eq_getElem?_getD, List.getElem?_map, List.getElem?_reverse (by rw [up_len]; omega), up_len]
      simp only [show m + 1 + 1 - 1 - m = 1 by omega]
      simp [upL]
  have hab : (now.take n).any id = (upL f n (at_ f i).parent).any (fun k => fitsC (at_ f k) x.c) := by
    rw [hnl, upL, List.reverse_cons, List.map_append, List.take_append_of_le_length (by rw [List.length_map, List.length_reverse, up_len]; omega), List.take_of_length_le (by rw [List.length_map, List.length_reverse, up_len]; omega), List.any_map, List.any_reverse]
    rfl
  rw [hch, hab]
  simp
theorem mem_up {f : Fo} : ∀ (n : Nat) (i x : Int), Up f n i → (x ∈ upL f n i ↔ 0 ≤ x ∧ ∃ m, FS.Reach f m i x)
  | 0, i, x, h => by
    have h0 : i < 0 := h
    constructor
    · intro hx; cases hx
    · rintro ⟨h1, m, hm⟩
      cases m with
      | zero => have : i = x := hm; omega
      | succ m => have := hm.1; omega
  | n + 1, i, x, h => by
    rw [upL, List.mem_cons, mem_up n _ x h.2]
    constructor
    · rintro (rfl | ⟨h1, m, hm⟩)
      · exact ⟨h.1, 0, rfl⟩
      · exact ⟨h1, m + 1, h.1, hm⟩
    · rintro ⟨h1, m, hm⟩
      cases m with
      | zero => exact .inl hm.symm
      | succ m => exact .inr ⟨h1, m, hm.2⟩
/-- What stands above a node, and fits. -/
def condB (f : Fo) (a : List Tst) (ch : Bool) (id up : Int) : Prop := fitsC (at_ f up) a = true ∧ up ≠ id ∧ belowB f up id = true ∧ (ch = true → (at_ f id).parent = up)
noncomputable def condD (f : Fo) (a : List Tst) (ch : Bool) (id up : Int) : Bool := fitsC (at_ f up) a && decide (up ≠ id) && belowB f up id && (!ch || decide ((at_ f id).parent = up))
theorem condD_iff {f : Fo} {a : List Tst} {ch : Bool} {id up : Int} : condD f a ch id up = true ↔ condB f a ch id up := by
  unfold condD condB
  cases ch <;> simp [and_assoc]
noncomputable def wantB (f : Fo) (a : List Tst) (ch : Bool) (id : Int) (k : Nat) : Bool := (List.range k).any (fun (up : Nat) => condD f a ch id up)
theorem wantB_succ (f : Fo) (a : List Tst) (ch : Bool) (id : Int) (k : Nat) : wantB f a ch id (k + 1) = (wantB f a ch id k || condD f a ch id k) := by
  unfold wantB
  rw [List.range_succ, List.any_append]
  simp
theorem two_is {f : Fo} (hm : mayB f = true) {i : Nat} (hi : i < f.length) (x y : Stp) : isS f i [[x, y]] = (wantB f x.c y.child i f.length && fitsC (at_ f i) y.c) := by
  unfold isS wayOf
  have hn : isNode f (i : Int) = true := nodeI hi
  rw [hn]
  obtain ⟨N, hN⟩ := may_climbs hm i hi
  rw [depthOf_up hN]
  obtain ⟨n, rfl⟩ : ∃ n, N = n + 1 := by
    cases N with
    | zero => have : (i : Int) < 0 := hN; omega
    | succ n => exact ⟨n, rfl⟩
  simp only [List.any_cons, List.any_nil, Bool.or_false, Bool.true_and]
  rw [two_ends]
  congr 1
  have hmay := may_is hm
  have key : ∀ u : Int, (u ∈ upL f n (at_ f (i : Int)).parent ↔ (u ≠ i ∧ belowB f u i = true)) := fun u => by
    rw [mem_up n _ u hN.2, below_iff hm hn]
    constructor
    · rintro ⟨h0, m, h2⟩
      refine ⟨fun e => ?_, h0, m + 1, hN.1, h2⟩
      subst e
      exact no_cycle (m := m) (f := f) (i := (i : Int)) ⟨hN.1, h2⟩ ⟨n + 1, hN⟩
    · rintro ⟨h0, h1, m, h2⟩
      cases m with
      | zero => exact absurd h2.symm h0
      | succ m => exact ⟨h1, m, h2.2⟩
  have hnode : ∀ u : Int, u ∈ upL f n (at_ f (i : Int)).parent → ∃ k : Nat, u = k ∧ k < f.length := fun u hu => node_nat (upL_node hm n _ hN.2 (hmay.par i hi).2.1 u hu)
  unfold wantB
  rw [Bool.eq_iff_iff, List.any_eq_true]
  cases hc : y.child with
  | true =>
    rw [if_pos rfl, Bool.and_eq_true, decide_eq_true_eq]
    constructor
    · rintro ⟨h0, h1⟩
      have hmem : (at_ f (i : Int)).parent ∈ upL f n (at_ f (i : Int)).parent := by
        cases n with
        | zero => omega
        | succ n => simp [upL]
      obtain ⟨k, hk, hkl⟩ := hnode _ hmem
      have h2 := (key _).1 hmem
      rw [hk] at h1 h2
      exact ⟨k, List.mem_range.2 hkl, condD_iff.2 ⟨h1, h2.1, h2.2, fun _ => hk⟩⟩
    · rintro ⟨k, hk, h1⟩
      obtain ⟨h2, _, _, h3⟩ := condD_iff.1 h1
      have h4 := h3 rfl
      refine ⟨?_, by rw [h4]; exact h2⟩
      cases n with
      | zero => have : (at_ f (i : Int)).parent < 0 := hN.2; omega
      | succ n => omega
  | false =>
    rw [if_neg (by decide), List.any_eq_true]
    constructor
    · rintro ⟨u, hu, h1⟩
      obtain ⟨k, rfl, hkl⟩ := hnode u hu
      have h2 := (key _).1 hu
      exact ⟨k, List.mem_range.2 hkl, condD_iff.2 ⟨h1, h2.1, h2.2, fun h => by cases h⟩⟩
    · rintro ⟨k, hk, h1⟩
      obtain ⟨h2, h3, h4, _⟩ := condD_iff.1 h1
      exact ⟨k, (key _).2 ⟨h3, h4⟩, h2⟩
theorem one_is {f : Fo} (hm : mayB f = true) {i : Nat} (hi : i < f.length) (x : Stp) : isS f i [[x]] = fitsC (at_ f i) x.c := by
  unfold isS wayOf
  rw [nodeI hi]
  obtain ⟨N, hN⟩ := may_climbs hm i hi
  rw [depthOf_up hN]
  have h1 : 1 ≤ N := by
    cases N with
    | zero => have : (i : Int) < 0 := hN; omega
    | succ n => omega
  simp only [List.any_cons, List.any_nil, Bool.or_false, Bool.true_and]
  exact one_ends f N _ h1 x
theorem two_sel (f : Fo) (i : Int) (a b : Sel) : isS f i (a ++ b) = (isS f i a || isS f i b) := by
  unfold isS
  rw [List.any_append]
  cases isNode f i <;> simp
theorem fits_more (n : Nd) (c : List Tst) (t : Tst) : fitsC n (c ++ [t]) = (fitsC n c && fitsC n [t]) := by
  unfold fitsC
  rw [List.all_append]
  cases decide (n.kind = 1) <;> simp
theorem two_fits {f : Fo} (hm : mayB f = true) {i : Nat} (hi : i < f.length) (x y : Stp) (h : isS f i [[x, y]] = true) : fitsC (at_ f i) y.c = true := by
  rw [two_is hm hi, Bool.and_eq_true] at h
  exact h.2
end Go.Proofs.YthdenkkllpkplaaGreat.Fi
end
section
/- The selector of an id: what it is, and whom it finds. No program. -/
namespace Go.Proofs.YthdenkkllpkplaaGreat.Fi
open Go Go.RowKit Go.Proofs.YthdenkkllpkplaaGreat.WS Go.Proofs.YthdenkkllpkplaaGreat.FS Go.Proofs.YthdenkkllpkplaaGreat.Fn Go.Proofs.YthdenkkllpkplaaGreat.Pa Go.Proofs.YthdenkkllpkplaaGreat.Grown
set_option linter.unusedVariables false
theorem comp_pre {s : ByteArray} {b : Nat} : ∀ (n : Nat) (c : List Tst) (a : Nat) {x : List Tst × Nat}, compLoop s b n c a = .ok x → ∃ r, x.1 = c ++ r
  | 0, c, a, x, h => by rw [compLoop] at h; cases h
  | n + 1, c, a, x, h => by
    rw [compLoop] at h
    have key : ∀ (t : Tst) (a' : Nat), compLoop s b n (c ++ [t]) a' = .ok x → ∃ r, x.1 = c ++ r := fun t a' h' => by
      obtain ⟨r, hr⟩ := comp_pre n _ _ h'
      exact ⟨t :: r, by rw [hr, List.append_assoc]; rfl⟩
    split at h
    · split at h
      · cases h
      · exact key _ _ h
    · split at h
      · split at h
        · cases h
        · exact key _ _ h
      · split at h
        · split at h
          · cases h
          · exact key _ _ h
        · split at h
          · cases h
          · injection h with h
            subst h
            exact ⟨[], by rw [List.append_nil]⟩
theorem row_pre {s : ByteArray} : ∀ (n : Nat) (l : Sro) (ch : Bool) (a : Nat) {x : Sro × Nat}, rowLoop s n l ch a = .ok x → ∃ y r, compoundP s a = .ok y ∧ x.1 = l ++ { c := y.1, child := ch } :: r
  | 0, l, ch, a, x, h => by rw [rowLoop] at h; cases h
  | n + 1, l, ch, a, x, h => by
    rw [rowLoop] at h
    cases hN : compoundP s a with
    | error e => rw [hN] at h; cases h
    | ok y =>
      rw [hN] at h
      simp only at h
      split at h
      · injection h with h
        subst h
        exact ⟨y, [], rfl, rfl⟩
      · split at h
        · obtain ⟨_, r, _, hr⟩ := row_pre n _ _ _ h
          exact ⟨y, _ :: r, rfl, by rw [hr, List.append_assoc]; rfl⟩
        · split at h
          · obtain ⟨_, r, _, hr⟩ := row_pre n _ _ _ h
            exact ⟨y, _ :: r, rfl, by rw [hr, List.append_assoc]; rfl⟩
          · cases h
theorem parse_pre {s : ByteArray} : ∀ (n : Nat) (l : Sel) (a : Nat) {x : Sel}, parseLoop s n l a = .ok x → ∃ y r, rowP s a = .ok y ∧ x = l ++ y.1 :: r
  | 0, l, a, x, h => by rw [parseLoop] at h; cases h
  | n + 1, l, a, x, h => by
    rw [parseLoop] at h
    cases hN : rowP s a with
    | error e => rw [hN] at h; cases h
    | ok y =>
      rw [hN] at h
      simp only at h
      split at h
      · obtain ⟨_, r, _, hr⟩ := parse_pre n _ _ h
        exact ⟨y, _ :: r, rfl, by rw [hr, List.append_assoc]; rfl⟩
      · injection h with h
        subst h
        exact ⟨y, [], rfl, rfl⟩
/-- What begins with a # and is one test is a test of an id, of a name that is none of no byte. -/
theorem id_parse {s : ByteArray} {t : Tst} {ch : Bool} (h0 : 0 < s.size) (h35 : nextB s 0 = 35) (h : parseP s = .ok [[{ c := [t], child := ch }]]) : t.kind = 2 ∧ 0 < t.name.size := by
  unfold parseP at h
  obtain ⟨y, r, hy, he⟩ := parse_pre _ _ _ h
  rw [List.nil_append] at he
  injection he with he1 he2
  unfold rowP at hy
  rw [end_stop (a := 0) (by rw [h35]; exact fun hx => absurd hx.2 (by decide))] at hy
  obtain ⟨z, r', hz, he3⟩ := row_pre _ _ _ _ hy
  rw [← he1, List.nil_append] at he3
  injection he3 with he4 he5
  injection he4 with he6 he7
  unfold compoundP at hz
  rw [if_neg (by unfold tookB; rw [h35, decide_eq_true h0]; decide), if_neg (by rw [h35]; decide), show s.size + 1 - 0 = s.size + 1 by omega, compLoop, if_neg (by rw [h35]; decide), if_pos h35] at hz
  split at hz
  · cases hz
  · rename_i x hx
    obtain ⟨r2, hr2⟩ := comp_pre _ _ _ hz
    rw [← he6, List.nil_append] at hr2
    injection hr2 with hr3 hr4
    subst hr3
    refine ⟨rfl, ?_⟩
    have ho := name_ok hx (by omega)
    unfold nameP at hx
    split at hx
    · split at hx
      · injection hx with hx
        subst hx
        simp only at ho ⊢
        rw [ByteArray.size_extract]
        omega
      · cases hx
    · cases hx
/-- Whom a selector of an id finds is who has it. -/
theorem id_hit {f : Fo} (hm : mayB f = true) {k : Int} (hk : isNode f k = true) {t : Tst} {ch : Bool} (h2 : t.kind = 2) (h0 : 0 < t.name.size) : isS f k [[{ c := [t], child := ch }]] = hitB f t.name k := by
  obtain ⟨i, rfl, hi⟩ := node_nat hk
  rw [one_is hm hi]
  have hne : t.name.size ≠ 0 := by omega
  unfold fitsC hitB attrVal attrErr
  rw [hk]
  simp only [List.all_cons, List.all_nil, Bool.and_true, if_false, decide_eq_true hne, Bool.true_eq_false]
  unfold soB
  rw [if_neg (by omega), if_pos h2]
  have hv : attrV f i idN = valA (at_ f i).attrs idS := rfl
  rw [hv]
  by_cases h1 : (at_ f (i : Int)).kind = 1
  · rw [decide_eq_true h1]
    simp only [h1, ne_eq, not_true_eq_false, if_false, Bool.true_and]
    cases hx : valA (at_ f (i : Int)).attrs idS with
    | none => simp
    | some v => simp
  · simp [h1]
theorem id_find {f : Fo} (hm : mayB f = true) {t : Tst} {ch : Bool} (h2 : t.kind = 2) (h0 : 0 < t.name.size) : (Wk.orderL f 0).find? (fun k => isS f k [[{ c := [t], child := ch }]]) = byId f t.name := by
  have hmay := may_is hm
  have hn : isNode f 0 = true := nodeI (i := 0) (by have := hmay.len; omega)
  unfold byId Wk.orderL
  rw [if_pos hn]
  have : ∀ l : List Int, (∀ k ∈ l, isNode f k = true) → l.find? (fun k => isS f k [[{ c := [t], child := ch }]]) = l.find? (hitB f t.name) := fun l => by
    induction l with
    | nil => intro _; rfl
    | cons x l ih =>
      intro hl
      rw [List.find?_cons, List.find?_cons, id_hit hm (hl x (by simp)) h2 h0, ih (fun k hk => hl k (by simp [hk]))]
  exact this _ (fun k hk => ((order_mem hmay hn k).1 hk).1)
end Go.Proofs.YthdenkkllpkplaaGreat.Fi
end
section
/- walk: ById. -/
namespace Go.Proofs.YthdenkkllpkplaaGreat.Wk
open Go Go.RowKit Go.Shelf Go.Proofs.YthdenkkllpkplaaGreat.Seq Go.Proofs.YthdenkkllpkplaaGreat.SeqR Go.Proofs.YthdenkkllpkplaaGreat.WS Go.Proofs.YthdenkkllpkplaaGreat.FS Go.Proofs.YthdenkkllpkplaaGreat.Mem Go.Proofs.YthdenkkllpkplaaGreat.Rd Go.Proofs.YthdenkkllpkplaaGreat.Shapes Go.Proofs.YthdenkkllpkplaaGreat.Word Go.Proofs.YthdenkkllpkplaaGreat.FFam Go.Proofs.YthdenkkllpkplaaGreat.Thr
set_option linter.unusedVariables false
set_option linter.unusedSimpArgs false
attribute [local go_sem] Oper.semAt_some Thr.wide_fn Thr.wide_depth Thr.wide_round

def byIdV (f : Fo) (o : Option Int) : Int × Int := match o with | some k => (k, 0) | none => (0, 3)
noncomputable def ByIdPost (f : Fo) (text : ByteArray) (w : World) (e : Ending) (w' : World) : Prop := e = .returned (.tuple #[.int .i64 (byIdV f (byId f text)).1, .int .i64 (byIdV f (byId f text)).2]) ∧ Below w.heap.size w w'
def idI (S : Nat) (fv : Value) (f : Fo) (text : ByteArray) (m : Nat) (X : Nat → Prop) (W : World) : Prop :=
  RdF (S + 2) W fv f ∧ W.heap[S]? = some (.cells #[fv] 28 (0, 0)) ∧ W.heap[S + 1]? = some (.cells #[.string text] 9 (0, 0)) ∧ W.heap[S + 2]? = some (.cells #[.int .i64 0] 3 (0, 0)) ∧ W.heap[S + 3]? = some (.cells #[.int .i64 0] 30 (0, 0)) ∧
    (∀ b, X b ↔ (b = S + 2 ∨ b = S + 3)) ∧ ∀ k ∈ (order f 0).take m, hitB f text k = false
def idX (S : Nat) (f : Fo) (text : ByteArray) (c : Code) (m : Nat) (X : Nat → Prop) (W : World) : Prop :=
  c = .ret ∧ ∃ x, W.heap[S + 2]? = some (.cells #[.int .i64 x] 3 (0, 0)) ∧ W.heap[S + 3]? = some (.cells #[.int .i64 0] 30 (0, 0)) ∧ (∀ b, X b ↔ (b = S + 2 ∨ b = S + 3)) ∧ byId f text = some x
theorem idI_foot (S : Nat) (fv : Value) (f : Fo) (text : ByteArray) : FootR (fun b => b < S + 2) (idI S fv f text) := by
  refine ⟨?_, ?_⟩
  · rintro m X W W' ⟨h1, h2, h3, h4, h5, h6, h7⟩ ho
    have hl := lt_heap h5
    refine ⟨h1.keep nodeE_keeps (ho.toBelow (by omega) (fun b hb => by have : ¬ b < S + 2 := hb.2; omega)) (Nat.le_refl _), ho.keep h2 (fun h => h.2 (by show S < S + 2; omega)), ho.keep h3 (fun h => h.2 (by show S + 1 < S + 2; omega)), ho.keep h4 (fun h => h.1 ((h6 _).2 (.inl rfl))), ho.keep h5 (fun h => h.1 ((h6 _).2 (.inr rfl))), h6, h7⟩
  · rintro m X W b ⟨h1, h2, h3, h4, h5, h6, h7⟩ hb
    rcases (h6 b).1 hb with rfl | rfl
    · exact lt_heap h4
    · exact lt_heap h5
theorem idX_foot (S : Nat) (f : Fo) (text : ByteArray) (c : Code) : FootR (fun b => b < S + 2) (idX S f text c) := by
  refine ⟨?_, ?_⟩
  · rintro m X W W' ⟨hc, x, h4, h5, h6, h7⟩ ho
    exact ⟨hc, x, ho.keep h4 (fun h => h.1 ((h6 _).2 (.inl rfl))), ho.keep h5 (fun h => h.1 ((h6 _).2 (.inr rfl))), h6, h7⟩
  · rintro m X W b ⟨hc, x, h4, h5, h6, h7⟩ hb
    rcases (h6 b).1 hb with rfl | rfl
    · exact lt_heap h4
    · exact lt_heap h5
theorem byId_hit {f : Fo} {text : ByteArray} {m : Nat} (hm : m < (order f 0).length) (hn : ∀ k ∈ (order f 0).take m, hitB f text k = false) (hh : hitB f text (order f 0)[m] = true) : byId f text = some (order f 0)[m] := by
  unfold byId
  have e : (order f 0).find? (hitB f text) = ((order f 0).take m ++ (order f 0).drop m).find? (hitB f text) := by rw [List.take_append_drop]
  rw [e, List.find?_append, List.drop_eq_getElem_cons hm, List.find?_eq_none.2 (fun k hk => by rw [hn k hk]; simp), List.find?_cons_of_pos hh]
  simp
theorem empty_dec (t : ByteArray) : (!t.toList.isEmpty) = decide (t.size ≠ 0) := by
  rw [Lib.toList_data, Lib.size_eq]
  cases h : t.data.toList <;> simp
/-- A round that does not hit. -/
theorem idI_next {S : Nat} {fv : Value} {f : Fo} {text : ByteArray} {m : Nat} {X : Nat → Prop} {W w6 : World} (hI : idI S fv f text m X W) (hb : Below W.heap.size W w6) (x : Int) (hnx : (order f 0).take (m + 1) = (order f 0).take m ++ [x]) (hx : hitB f text x = false) :
    Off X W w6 ∧ idI S fv f text (m + 1) X w6 := by
  obtain ⟨h1, h2, h3, h4, h5, h6, h7⟩ := hI
  have hlt := lt_heap h5
  refine ⟨Off.below hb (fun b h h' => by omega), h1.keep nodeE_keeps (hb.mono (by omega)) (Nat.le_refl _), (hb.block _ (by omega)).trans h2, (hb.block _ (by omega)).trans h3, (hb.block _ (by omega)).trans h4, (hb.block _ (by omega)).trans h5, h6, ?_⟩
  intro k hk
  rw [hnx] at hk
  rcases List.mem_append.1 hk with hk | hk
  · exact h7 k hk
  · rw [List.mem_singleton.1 hk]; exact hx
theorem byId_none {f : Fo} {text : ByteArray} (hn : ∀ k ∈ order f 0, hitB f text k = false) : byId f text = none := by
  unfold byId
  exact List.find?_eq_none.2 (fun k hk => by rw [hn k hk]; simp)
set_option maxRecDepth 100000 in
set_option maxHeartbeats 4000000 in
theorem ById_calls (w : World) (v : Value) (f : Fo) (h : RdF w.heap.size w v f) (hm : mayB f = true) (text : ByteArray) : Calls Tryz.prog 50 #[v, .string text] w (ByIdPost f text w) := by
  obtain ⟨A0, c0, rfl, hl0, hc0, h'⟩ := h.form
  simp only [maxLen] at hc0
  have hl60 := (may_is hm).len
  have hn : isNode f 0 = true := (node_iff f 0).2 ⟨by omega, by omega⟩
  obtain ⟨w2, hw2⟩ : ∃ w2, (((w.alloc (.cells #[.slice A0 f.length c0] 28)).alloc (.cells #[.string text] 9)).alloc (.cells #[.int .i64 0] 3)).alloc (.cells #[.int .i64 0] 30) = w2 := ⟨_, rfl⟩
  have hs2 : w2.heap.size = w.heap.size + 4 := by rw [← hw2]; simp
  have p0 : w2.heap[w.heap.size]? = some (.cells #[.slice A0 f.length c0] 28 (0, 0)) := by rw [← hw2]; exact heap_old (heap_old (heap_old (World.alloc_heap_new _ _)))
  have p1 : w2.heap[w.heap.size + 1]? = some (.cells #[.string text] 9 (0, 0)) := by rw [← hw2]; exact heap_old (heap_old (heap_new (by simp)))
  have p2 : w2.heap[w.heap.size + 2]? = some (.cells #[.int .i64 0] 3 (0, 0)) := by rw [← hw2]; exact heap_old (heap_new (by simp))
  have p3 : w2.heap[w.heap.size + 3]? = some (.cells #[.int .i64 0] 30 (0, 0)) := by rw [← hw2]; exact heap_new (by simp)
  have hb2 : Below w.heap.size w w2 := by rw [← hw2]; exact ((((Below.refl _ _).alloc (Nat.le_refl _) _).alloc (by simp) _).alloc (by simp; omega) _).alloc (by simp; omega) _
  have hr2 : RdF w.heap.size w2 (.slice A0 f.length c0) f := h'.below nodeE_keeps hb2 (Nat.le_refl _)
  have hc2 := cell_of p0
  have Hw2 := Lib.hid hw2
  clear hw2 h h'
  refine (callsIn_wide (n := 0)).1 ?_
  refine callsIn_of_wp_marks Tryz.func50 rfl trivial ?_ rfl
  simp only [Tryz.ntmps50, List.size_toArray, List.length_cons, List.length_nil, Nat.reduceAdd, Nat.reduceSub, Array.replicate_succ, Array.replicate_zero, List.push_toArray, List.append_toArray, List.nil_append, List.cons_append]
  gi_upto_region 1 with fail
  rw [Hw2.out]
  gi_wp2_with (gi_at_call 92; (refine (callsIn_wide.2 (through_calls _ _ _ _ _)).mono ?_); rintro e w5 ⟨rfl, hw5⟩)
  have hz5 : w5.heap.size = w.heap.size + 6 := by rw [← hw5]; simp; omega
  have q0 : w5.heap[w.heap.size]? = some (.cells #[.slice A0 f.length c0] 28 (0, 0)) := by rw [← hw5]; exact heap_old (heap_old p0)
  have q1 : w5.heap[w.heap.size + 1]? = some (.cells #[.string text] 9 (0, 0)) := by rw [← hw5]; exact heap_old (heap_old p1)
  have q2 : w5.heap[w.heap.size + 2]? = some (.cells #[.int .i64 0] 3 (0, 0)) := by rw [← hw5]; exact heap_old (heap_old p2)
  have q3 : w5.heap[w.heap.size + 3]? = some (.cells #[.int .i64 0] 30 (0, 0)) := by rw [← hw5]; exact heap_old (heap_old p3)
  have qf : w5.heap[w.heap.size + 4]? = some (.cells #[.slice A0 f.length c0] 28 (0, 0)) := by rw [← hw5, ← hs2]; exact heap_old (World.alloc_heap_new w2 _)
  have qi : w5.heap[w.heap.size + 4 + 1]? = some (.cells #[.int .i64 0] 3 (0, 0)) := by
    rw [← hw5, ← hs2]
    have := World.alloc_heap_new (w2.alloc (.cells #[.slice A0 f.length c0] 28)) (.cells #[.int .i64 0] 3)
    rwa [World.size_alloc] at this
  have hb25 : Below w2.heap.size w2 w5 := by rw [← hw5]; exact ((Below.refl _ _).alloc (Nat.le_refl _) _).alloc (by simp) _
  have hb5 : Below w.heap.size w w5 := bthen hb2 hb25
  have hr5 : RdF (w.heap.size + 2) w5 (.slice A0 f.length c0) f := (hr2.keep nodeE_keeps (hb25.mono (by omega)) (Nat.le_refl _)).mono nodeE_keeps (by omega)
  have hall : ∀ x ∈ order f 0, isNode f x = true := fun x hx => ((order_mem (may_is hm) hn x).1 hx).1
  have Hall := Lib.hid hall; have Hb5 := Lib.hid hb5; have Hz5 := Lib.hid hz5
  clear hw5 hall hb25 hb5 hb2 hr2 hc2 Hw2 p0 p1 p2 p3
  refine wpIn_rangeR rfl (enters_of Tryz.func162 (by kernel_rfl) rfl) (through_seqR f hm 0 hn (by decide) (w.heap.size + 2) (w.heap.size + 4 + 1) (w.heap.size + 4) (by omega) (by omega) (.slice A0 f.length c0))
    (fun W ho => ⟨ho.keep qi (fun h => h), ho.keep qf (fun h => h), hr5.keep nodeE_keeps (ho.toBelow (by omega) (fun b hb => hb.elim)) (Nat.le_refl _), by have := ho.size; omega⟩)
    (idI w.heap.size (.slice A0 f.length c0) f text) (idX w.heap.size f text) (idI_foot _ _ _ _) (idX_foot _ _ _) (fun b => b = w.heap.size + 2 ∨ b = w.heap.size + 3)
    (fun b hb => ⟨fun h => h, fun h => by omega⟩)
    ⟨hr5, q0, q1, q2, q3, fun b => Iff.rfl, by simp⟩
    (fun b h => by rcases h with h | h | h | h; exact h.elim; omega; omega; omega) (fun b hb => by have : b < w.heap.size + 2 := hb; omega)
    (fun m => { tmps := #[.slice A0 f.length c0, .string text, .pointer (some ⟨w.heap.size, 0, none⟩), .pointer (some ⟨w.heap.size + 1, 0, none⟩), .pointer (some ⟨w.heap.size + 1 + 1, 0, none⟩), .pointer (some ⟨w.heap.size + 1 + 1 + 1, 0, none⟩), ((order f 0).map (Value.int .i64)).getD m undef, undef, undef, .slice A0 f.length c0,
      .func (.func 162) #[] #[.pointer (some ⟨w.heap.size + 4 + 1, 0, none⟩), .pointer (some ⟨w.heap.size + 4, 0, none⟩)], ((order f 0).map (Value.int .i64)).getD m undef, undef, undef, undef, undef, undef, undef, undef, undef, undef, undef, undef, undef, undef, undef, undef, undef, undef, undef], defers := [] })
    ?assign ?body ?done ?stop
  case assign =>
    intro l m hm' W K hK
    rw [show ((order f 0).map (Value.int .i64)).getD m undef = ((order f 0).map (Value.int .i64))[m] by rw [List.getD_eq_getElem?_getD, List.getElem?_eq_getElem hm']; rfl] at hK
    generalize ((order f 0).map (Value.int .i64))[m] = x at *
    gi_wp2
    exact hK
  case body =>
    rintro l m hm' X' W' ⟨h1, h2, h3, h4, h5, h6, h7⟩
    have hmo : m < (order f 0).length := by simpa using hm'
    rw [show ((order f 0).map (Value.int .i64)).getD m undef = .int .i64 (order f 0)[m] by rw [List.getD_eq_getElem?_getD, List.getElem?_eq_getElem hm']; simp]
    have hnx : (order f 0).take (m + 1) = (order f 0).take m ++ [(order f 0)[m]] := List.take_succ_eq_append_getElem hmo
    have hhit := byId_hit (text := text) hmo h7
    have hat := Attr_calls W' _ f (h1.mono nodeE_keeps (by have := lt_heap h5; omega)) (order f 0)[m] idN
    have hc0 := cell_of h2
    have hlt := lt_heap h5
    have hkeep : ∀ w6, Below W'.heap.size W' w6 → w6.cell? ⟨w.heap.size + 1, 0, none⟩ = some (.string text) := fun w6 hb => cell_grow hb (cell_of h3)
    have hfr2 : ∀ w6, Below W'.heap.size W' w6 → w6.heap[w.heap.size + 2]? = some (.cells #[.int .i64 0] 3 (0, 0)) ∧ w6.heap[w.heap.size + 3]? = some (.cells #[.int .i64 0] 30 (0, 0)) := fun w6 hb => ⟨(hb.block _ (by omega)).trans h4, (hb.block _ (by omega)).trans h5⟩
    have hH : hitB f text (order f 0)[m] = (decide (attrErr f (order f 0)[m] idN = 0) && decide (attrVal f (order f 0)[m] idN = text) && decide (text.size ≠ 0)) := rfl
    have H1 := Lib.hid h1; have H2 := Lib.hid h2; have H3 := Lib.hid h3; have H4 := Lib.hid h4; have H5 := Lib.hid h5; have H6 := Lib.hid h6; have H7 := Lib.hid h7; have Hnx := Lib.hid hnx; have Hhit := Lib.hid hhit; have Hat := Lib.hid hat; have Hkeep := Lib.hid hkeep; have Hfr := Lib.hid hfr2; have HH := Lib.hid hH
    clear h1 h2 h3 h4 h5 h6 h7 hnx hhit hat hkeep hfr2 hH q0 q1 q2 q3 qf qi hr5
    generalize (order f 0)[m] = x at *
    unfold AttrPost at Hat
    obtain ⟨E, hE⟩ : ∃ E, attrErr f x idN = E := ⟨_, rfl⟩
    obtain ⟨V, hV⟩ : ∃ V, attrVal f x idN = V := ⟨_, rfl⟩
    rw [hE, hV] at Hat HH
    gi_wp2_with (gi_at_call 93; (refine (callsIn_wide.2 Hat.out).mono ?_); rintro e w6 ⟨rfl, hb6⟩; have k1 := Hkeep.out w6 hb6; obtain ⟨k2, k3⟩ := Hfr.out w6 hb6; have k4 := free_of k2 0; have k5 := free_of k3 0; have k6 := cell_of k2; have k7 := cell_of k3; have K2 := Lib.hid k2; have K3 := Lib.hid k3; have Hb6 := Lib.hid hb6; clear k2 k3 hb6)
    · have he : V.toList = text.toList := by assumption
      have hE0 : E = 0 := by assumption
      have ht : (!text.toList.isEmpty) = true := by assumption
      rw [FSame.str_inj] at he
      rw [empty_dec] at ht
      have hbi := Hhit.out (by rw [HH.out, decide_eq_true he, decide_eq_true hE0, ht]; rfl)
      refine ⟨X', Grew.refl _ _, ((Off.below Hb6.out (fun b h h' => by omega)).trans (Off.setCell _ _ _ ((H6.out _).2 (.inl rfl)))).trans (Off.setCell _ _ _ ((H6.out _).2 (.inr rfl))), rfl, x, (set_other (by omega)).trans (set_one K2.out), set_one ((set_other (by omega)).trans K3.out), H6.out, hbi⟩
    · have ht : (!text.toList.isEmpty) = false := by assumption
      rw [empty_dec] at ht
      obtain ⟨r1, r2⟩ := idI_next ⟨H1.out, H2.out, H3.out, H4.out, H5.out, H6.out, H7.out⟩ Hb6.out x Hnx.out (by rw [HH.out, ht, Bool.and_false])
      exact ⟨X', Grew.refl _ _, r1, r2⟩
    · have he : ¬ V.toList = text.toList := by assumption
      rw [FSame.str_inj] at he
      obtain ⟨r1, r2⟩ := idI_next ⟨H1.out, H2.out, H3.out, H4.out, H5.out, H6.out, H7.out⟩ Hb6.out x Hnx.out (by rw [HH.out, decide_eq_false he, Bool.and_false, Bool.false_and])
      exact ⟨X', Grew.refl _ _, r1, r2⟩
    · have he : ¬ E = 0 := by assumption
      obtain ⟨r1, r2⟩ := idI_next ⟨H1.out, H2.out, H3.out, H4.out, H5.out, H6.out, H7.out⟩ Hb6.out x Hnx.out (by rw [HH.out, decide_eq_false he, Bool.false_and, Bool.false_and])
      exact ⟨X', Grew.refl _ _, r1, r2⟩
  case done =>
    rintro D X' W hD hXD hgr hof ⟨h1, h2, h3, h4, h5, h6, h7⟩ hK
    rw [List.length_map, List.take_of_length_le (Nat.le_refl _)] at h7
    have hbi := byId_none h7
    have hc4 := cell_of h4
    have hc5 := cell_of h5
    have hf4 := free_of h4 0
    have hf5 := free_of h5 0
    have H4 := Lib.hid h4; have H5 := Lib.hid h5; have HK := Lib.hid hK; have Hof := Lib.hid hof; have Hbi := Lib.hid hbi
    clear h1 h2 h3 h4 h5 h6 h7 hK hof hgr q0 q1 q2 q3 qf qi hr5 hbi
    gi_wp2
    refine ⟨by simp, .inl ⟨_, _, rfl, run_takeDeferred ((set_other (by omega)).trans ((set_other (by omega)).trans HK.out)), ?_⟩⟩
    have g2 : (((W.setCell ⟨w.heap.size + 2, 0, none⟩ (.int .i64 0)).setCell ⟨w.heap.size + 3, 0, none⟩ (.int .i64 3)).putObj D (.deferred none)).heap[w.heap.size + 2]? = some (.cells #[.int .i64 0] 3 (0, 0)) := (put_other (by omega)).trans ((set_other (by omega)).trans (set_one H4.out))
    have g3 : (((W.setCell ⟨w.heap.size + 2, 0, none⟩ (.int .i64 0)).setCell ⟨w.heap.size + 3, 0, none⟩ (.int .i64 3)).putObj D (.deferred none)).heap[w.heap.size + 3]? = some (.cells #[.int .i64 3] 30 (0, 0)) := (put_other (by omega)).trans (set_one ((set_other (by omega)).trans H5.out))
    have c2 := cell_of g2
    have c3 := cell_of g3
    refine ⟨.tuple #[.int .i64 0, .int .i64 3], by simp [results, Tryz.results50, c2, c3, go_sem], by rw [Hbi.out]; rfl, ?_⟩
    have b1 := ((Hb5.out.trans (Hof.out.toBelow (B := w.heap.size) (by omega) (fun b h => by rcases h with h | h; omega; exact h.elim))).setCell (p := ⟨w.heap.size + 2, 0, none⟩) (by simp) (.int .i64 0)).setCell (p := ⟨w.heap.size + 3, 0, none⟩) (by simp) (.int .i64 3)
    exact b1.trans (Off.toBelow (Y := fun b => b = D) (Off.putObj _ _ _ rfl) b1.size (fun b h => by omega))
  case stop =>
    rintro D c m X' W hk hD hXD hgr hof ⟨rfl, x, h4, h5, h6, h7⟩ hK
    gi_wp2
    refine ⟨by simp, .inl ⟨_, _, rfl, run_takeDeferred hK, ?_⟩⟩
    have c2 := cell_of ((put_other (o := .deferred none) (show w.heap.size + 2 ≠ D by omega)).trans h4)
    have c3 := cell_of ((put_other (o := .deferred none) (show w.heap.size + 3 ≠ D by omega)).trans h5)
    refine ⟨.tuple #[.int .i64 x, .int .i64 0], by simp [results, Tryz.results50, c2, c3, go_sem], by rw [h7]; rfl, ?_⟩
    have b1 := Hb5.out.trans (hof.toBelow (B := w.heap.size) (by omega) (fun b h => by rcases h with h | h; omega; exact h.elim))
    exact b1.trans (Off.toBelow (Y := fun b => b = D) (Off.putObj _ _ _ rfl) b1.size (fun b h => by omega))
end Go.Proofs.YthdenkkllpkplaaGreat.Wk
end
section
/- treillagelaw10.few. -/
namespace Go.Proofs.YthdenkkllpkplaaGreat.Fi
open Go Go.RowKit Go.Proofs.YthdenkkllpkplaaGreat.Seq Go.Proofs.YthdenkkllpkplaaGreat.WS Go.Proofs.YthdenkkllpkplaaGreat.FS Go.Proofs.YthdenkkllpkplaaGreat.Mem Go.Proofs.YthdenkkllpkplaaGreat.Rd Go.Proofs.YthdenkkllpkplaaGreat.Shapes Go.Proofs.YthdenkkllpkplaaGreat.Word Go.Proofs.YthdenkkllpkplaaGreat.FFam Go.Proofs.YthdenkkllpkplaaGreat.Grown
set_option linter.unusedVariables false
set_option linter.unusedSimpArgs false
def smT (t : Tst) : Bool := decide (t.name.size ≤ 100) && decide (t.value.size ≤ 100)
def cntS (r : Sro) : Nat := (r.map (fun x => x.c.length + 1)).sum
def cntL (l : Sel) : Nat := (l.map (fun r => cntS r + 1)).sum
def smL (l : Sel) : Bool := l.all (fun r => r.all (fun x => x.c.all smT))
/-- A selector that is not too long (as the law counts it). -/
def fewB (l : Sel) : Bool := smL l && decide (wrap64 (cntL l) ≤ 40)
theorem wrap_one (n : Nat) : wrap64 (wrap64 (n : Int) + 1) = wrap64 ((n + 1 : Nat) : Int) := by unfold wrap64; omega
theorem cntS_succ {r : Sro} {k : Nat} (h : k < r.length) : cntS (r.take (k + 1)) = cntS (r.take k) + r[k].c.length + 1 := by
  unfold cntS
  rw [List.take_succ_eq_append_getElem h, List.map_append, List.sum_append]
  simp
  omega
theorem cntL_succ {l : Sel} {k : Nat} (h : k < l.length) : cntL (l.take (k + 1)) = cntL (l.take k) + cntS l[k] + 1 := by
  unfold cntL
  rw [List.take_succ_eq_append_getElem h, List.map_append, List.sum_append]
  simp
  omega
theorem smL_no {l : Sel} {i k m : Nat} (hi : i < l.length) (hk : k < l[i].length) (hm : m < l[i][k].c.length) (h : smT l[i][k].c[m] = false) : fewB l = false := by
  have : smL l = false := by
    cases hs : smL l with
    | false => rfl
    | true =>
      unfold smL at hs
      rw [List.all_eq_true] at hs
      have h1 := hs _ (List.getElem_mem hi)
      rw [List.all_eq_true] at h1
      have h2 := h1 _ (List.getElem_mem hk)
      rw [List.all_eq_true] at h2
      rw [h2 _ (List.getElem_mem hm)] at h
      cases h
  unfold fewB
  rw [this]
  rfl
set_option maxRecDepth 100000 in
set_option maxHeartbeats 8000000 in
theorem few_calls (w : World) (v : Value) (l : Sel) (h : RdSel w.heap.size w v l) : Calls Tryz.prog 33 #[v] w fun e w' => e = .returned (.bool (fewB l)) ∧ w = w' := by
  obtain ⟨A0, c0, rfl, hl0, hc0, h'⟩ := h.form
  simp only [maxLen] at hc0
  have Hh := Lib.hid h'
  have hno := fun i k m (hi : i < l.length) (hk : k < l[i].length) (hm : m < l[i][k].c.length) hx => smL_no (l := l) hi hk hm hx
  have Hno := Lib.hid hno
  have hz0 : (0 : Int) = wrap64 ((cntL (l.take 0) : Nat) : Int) := by simp [cntL, wrap64]
  have Hz0 := Lib.hid hz0
  clear h h' hno hz0
  go_enter Tryz.func33, Tryz.ntmps33
  go_wp2_with fail
  go_loop [3, 4] (fun u i => ∃ (k : Nat) (x : Int), k ≤ l.length ∧ i = .int .i64 k ∧ u = .int .i64 x ∧ Hid (x = wrap64 ((cntL (l.take k) : Nat) : Int)) ∧ Hid (smL (l.take k) = true)) (fun _ i => l.length - (intOf i).toNat)
  case atStart => exact ⟨0, 0, Nat.zero_le _, rfl, rfl, Hz0, Lib.hid rfl⟩
  case round =>
    obtain ⟨i, x, hi, rfl, rfl, hx, hs⟩ := hrel
    by_cases hil : i < l.length
    · obtain ⟨bo, oo, Ar, cr, rfl, _, r0, hrow, lr1, lr2⟩ := row_at Hh.out hil
      have hsl : (l.take (i + 1)) = l.take i ++ [l[i]] := List.take_succ_eq_append_getElem hil
      have hcl := cntL_succ hil
      have Hr := Lib.hid hrow; have Hsl := Lib.hid hsl; have Hcl := Lib.hid hcl
      simp only [maxLen] at lr2
      have Hn1 := Lib.hid (fun k m hk hm hx => Hno.out i k m hil hk hm hx)
      clear hrow hsl hcl
      generalize l[i] = r at *
      go_wp2_with fail
      go_loop [3, 5] (fun u i' => ∃ (k : Nat) (y : Int), k ≤ r.length ∧ i' = .int .i64 k ∧ u = .int .i64 y ∧ Hid (y = wrap64 ((cntL (l.take i) + cntS (r.take k) : Nat) : Int)) ∧ Hid ((r.take k).all (fun x => x.c.all smT) = true)) (fun _ i' => r.length - (intOf i').toNat)
      case atStart => exact ⟨0, x, Nat.zero_le _, rfl, rfl, Lib.hid (by rw [hx.out]; simp [cntS]), Lib.hid rfl⟩
      case round =>
        obtain ⟨k, y, hk, rfl, rfl, hy, hs2⟩ := hrel
        by_cases hkl : k < r.length
        · obtain ⟨bs, os, At, ct, rfl, _, s0, _, htst, lt1, lt2⟩ := step_at Hr.out hkl
          have hsr : (r.take (k + 1)) = r.take k ++ [r[k]] := List.take_succ_eq_append_getElem hkl
          have hcr := cntS_succ hkl
          have Ht := Lib.hid htst; have Hsr := Lib.hid hsr; have Hcr := Lib.hid hcr
          simp only [maxLen] at lt2
          have Hn2 := Lib.hid (fun m hm hx => Hn1.out k m hkl hm hx)
          clear htst hsr hcr
          generalize r[k] = st at *
          go_wp2_with fail
          go_loop [3, 6] (fun u i' => ∃ (m : Nat) (z : Int), m ≤ st.c.length ∧ i' = .int .i64 m ∧ u = .int .i64 z ∧ Hid (z = wrap64 ((cntL (l.take i) + cntS (r.take k) + m : Nat) : Int)) ∧ Hid ((st.c.take m).all smT = true)) (fun _ i' => st.c.length - (intOf i').toNat)
          case atStart => exact ⟨0, y, Nat.zero_le _, rfl, rfl, Lib.hid (by rw [hy.out]; rfl), Lib.hid rfl⟩
          case round =>
            obtain ⟨m, z, hm, rfl, rfl, hz, hs3⟩ := hrel
            by_cases hml : m < st.c.length
            · obtain ⟨bt, ot, rfl, _, _, t1, t2, m1, m2, _⟩ := test_at Ht.out hml
              have hst : (st.c.take (m + 1)) = st.c.take m ++ [st.c[m]] := List.take_succ_eq_append_getElem hml
              have Hst := Lib.hid hst
              have Hn3 := Lib.hid (fun hx => Hn2.out m hml hx)
              simp only [maxLen] at m1 m2
              clear hst
              generalize st.c[m] = t at *
              by_cases h1 : t.name.size ≤ 100
              · by_cases h2 : t.value.size ≤ 100
                · have hx : smT t = true := by unfold smT; rw [decide_eq_true h1, decide_eq_true h2]; rfl
                  have Hx := Lib.hid hx
                  clear hx
                  go_wp2_with fail
                  go_round
                  case rel => exact ⟨m + 1, _, by omega, by go_num, rfl, Lib.hid (by rw [hz.out]; exact wrap_one _), Lib.hid (by rw [Hst.out, List.all_append, hs3.out]; simp [Hx.out])⟩
                  case measure => simp [intOf]; omega
                · have hx : smT t = false := by unfold smT; rw [decide_eq_false h2]; simp
                  have Hx := Lib.hid hx
                  clear hx
                  go_wp2_with fail
                  go_ret
                  exact ⟨by rw [Hn3.out Hx.out]; rfl, rfl⟩
              · have hx : smT t = false := by unfold smT; rw [decide_eq_false h1]; rfl
                have Hx := Lib.hid hx
                clear hx
                go_wp2_with fail
                go_ret
                exact ⟨by rw [Hn3.out Hx.out]; rfl, rfl⟩
            · obtain rfl : m = st.c.length := by omega
              go_wp2_with fail
              go_round
              case rel => exact ⟨k + 1, _, by omega, by go_num, rfl, Lib.hid (by rw [hz.out, wrap_one, Hcr.out]; congr 2; omega), Lib.hid (by
                have := hs3.out
                rw [List.take_length] at this
                rw [Hsr.out, List.all_append, hs2.out]
                simp [this])⟩
              case measure => simp [intOf]; omega
        · obtain rfl : k = r.length := by omega
          go_wp2_with fail
          go_round
          case rel => exact ⟨i + 1, _, by omega, by go_num, rfl, Lib.hid (by rw [hy.out, wrap_one, Hcl.out, List.take_length]), Lib.hid (by
            have := hs2.out
            rw [List.take_length] at this
            have h4 := hs.out
            unfold smL at h4 ⊢
            rw [Hsl.out, List.all_append, h4]
            simp [this])⟩
          case measure => simp [intOf]; omega
    · obtain rfl : i = l.length := by omega
      have hr : fewB l = decide (x ≤ 40) := by
        have h1 := hx.out
        have h2 := hs.out
        rw [List.take_length] at h1 h2
        unfold fewB
        rw [h2, h1, Bool.true_and]
      have Hr := Lib.hid hr
      clear hr hx hs
      go_wp2_with fail
      go_ret
      exact ⟨by rw [Hr.out]; rfl, rfl⟩
end Go.Proofs.YthdenkkllpkplaaGreat.Fi
end
section
/- Selectors as arguments: how they are read, and how long their rows may be. -/
namespace Go.Proofs.YthdenkkllpkplaaGreat.Shapes
open Go Go.RowKit Go.Deep Go.Proofs.YthdenkkllpkplaaGreat.Rd
open Go.Proofs.YthdenkkllpkplaaGreat.FS (Av Nd Fo Tst Stp Sro Sel)
set_option linter.unusedVariables false
section
variable {H : Type} {enc : TypeId × Value → H} {P : Program} {w : World} {base : Nat} {spare : Nat → Bool} {held : Bool} {α : Type} {E : Elem α} {Z : α → Prop}
/-- Of what is read every part is of so many bytes at the most. -/
def Few (P : Program) (t : TypeId) (d : DataW H) : Prop := (d.weights P t).all (· ≤ reachBytes) = true
def OpensZ (enc : TypeId × Value → H) (P : Program) (w : World) (base : Nat) (spare : Nat → Bool) (held : Bool) (e : TypeId) (E : Elem α) (Z : α → Prop) : Prop :=
  ∀ (fuel : Nat) (cs : List Value) (x : DataW H × List MemPlace), DataW.trod enc P w base spare held fuel e cs = some x → Few P e x.1 → ∃ a, E w.heap.size w cs a ∧ Z a
theorem Opens.z {e : TypeId} (h : Opens enc P w base spare held e E) : OpensZ enc P w base spare held e E (fun _ => True) := fun fuel cs x hx _ => by
  obtain ⟨a, ha⟩ := h fuel cs x hx
  exact ⟨a, ha, trivial⟩
theorem few_slice {t e : TypeId} {elems spares : List (DataW H)} (ht : P.underlying t = some (.slice e)) (h : Few P t (.slice elems spares)) : elems.length * P.bytesOf e ≤ reachBytes ∧ ∀ d ∈ elems, Few P e d := by
  unfold Few at h
  simp only [DataW.weights, ht, List.all_cons, List.all_append, Bool.and_eq_true, decide_eq_true_eq] at h
  obtain ⟨h1, h2, _⟩ := h
  refine ⟨Nat.le_trans (Nat.mul_le_mul_right _ (Nat.le_add_right _ _)) h1, ?_⟩
  have key : ∀ l : List (DataW H), (DataW.weightsAll P e l).all (· ≤ reachBytes) = true → ∀ d ∈ l, Few P e d := fun l => by
    induction l with
    | nil => intro _ d hd; cases hd
    | cons x l ih =>
      intro hx d hd
      simp only [DataW.weightsAll, List.all_append, Bool.and_eq_true] at hx
      rcases List.mem_cons.1 hd with rfl | hd
      · exact hx.1
      · exact ih hx.2 d hd
  exact key _ h2
theorem open_cellsZ {t e : TypeId} {fuel : Nat} {cs : List Value} {x : DataW H × List MemPlace} (ht : P.underlying t = some (.slice e)) (hp : 0 < P.cellsOf e) (hE : OpensZ enc P w base spare held e E Z)
    (h : DataW.trod enc P w base spare held fuel t cs = some x) (hw : Few P t x.1) : ∃ (v : Value) (l : List α), cs = [v] ∧ RdL E (P.cellsOf e) w.heap.size w v l ∧ l.length * P.bytesOf e ≤ reachBytes ∧ ∀ a ∈ l, Z a := by
  rcases Deep.open_slice ht h with ⟨rfl, _⟩ | ⟨a, len, cap, m, n, D, Pl, rfl, hb, hl, hm, hmm, rfl, hx⟩
  · exact ⟨_, [], rfl, RdL.nil, by simp, fun a ha => by cases ha⟩
  · have hlm : len ≤ m := by rw [hmm]; split <;> omega
    obtain ⟨hw1, hw2⟩ := few_slice ht hw
    rw [List.length_map, List.length_range] at hw1
    have hwd : ∀ k, k < len → Few P e (D k) := fun k hk => hw2 _ (List.mem_map.2 ⟨k, List.mem_range.2 hk, rfl⟩)
    have key : ∀ k, k ≤ len → ∃ l : List α, l.length = k ∧ (∀ a ∈ l, Z a) ∧ ∀ i (hi : i < l.length), ∃ cs : List Value, cs.length = P.cellsOf e ∧ (∀ j u, cs[j]? = some u → w.cell? (a.add (i * P.cellsOf e + j)) = some u) ∧ E w.heap.size w cs l[i] := by
      intro k
      induction k with
      | zero => exact fun _ => ⟨[], rfl, fun a ha => (by cases ha), fun i hi => absurd hi (by simp)⟩
      | succ k ih =>
        intro hk
        obtain ⟨l, h1, hz, h2⟩ := ih (by omega)
        obtain ⟨cs', h3, h4⟩ := hx k (by omega)
        obtain ⟨y, hy, hzy⟩ := hE _ _ _ h4 (hwd k (by omega))
        obtain ⟨_, hcl, hat⟩ := World.cells?_some h3
        refine ⟨l ++ [y], by simp [h1], fun b hb => ?_, fun i hi => ?_⟩
        · rw [List.mem_append, List.mem_singleton] at hb
          rcases hb with hb | rfl
          · exact hz b hb
          · exact hzy
        · by_cases hil : i < l.length
          · obtain ⟨cs, g1, g2, g3⟩ := h2 i hil
            exact ⟨cs, g1, g2, by rw [List.getElem_append_left hil]; exact g3⟩
          · have : i = k := by simp at hi; omega
            subst this
            refine ⟨cs', hcl, fun j u hj => ?_, by rw [List.getElem_append_right (by omega)]; simp [h1]; exact hy⟩
            have hjl : j < P.cellsOf e := by have := (List.getElem?_eq_some_iff.1 hj).1; omega
            rw [← Deep.add_add, hat j hjl, hj]
    obtain ⟨l, rfl, hz, h2⟩ := key len (Nat.le_refl _)
    refine ⟨_, l, rfl, ⟨_, cap, rfl, hl, hm, fun h0 => ?_⟩, hw1, hz⟩
    obtain ⟨cs', h3, _⟩ := hx 0 (by omega)
    have hblk := World.cells?_block h3 hp
    rw [add_block] at hblk
    obtain ⟨_, hcl, hat⟩ := World.cells?_some h3
    have h0c := hat 0 hp
    have hspot : a.spot = none := by
      have hv : cs'[0]? = some (cs'[0]'(by omega)) := List.getElem?_eq_getElem (by omega)
      rw [hv] at h0c
      simpa [Addr.add] using World.cell?_spot h0c
    obtain ⟨b, o, s⟩ := a
    simp only at hspot
    subst hspot
    refine ⟨b, o, rfl, hblk, fun i hi => ?_⟩
    obtain ⟨cs, g1, g2, g3⟩ := h2 i hi
    refine ⟨cs, g1, fun j u hj => ?_, g3⟩
    have := g2 j u hj
    rwa [Addr.add_lit, ← Nat.add_assoc] at this
theorem opens_sliceZ {t e : TypeId} (sz by_ : Nat) (ht : P.underlying t = some (.slice e)) (hc : P.cellsOf e = sz) (hby : P.bytesOf e = by_) (hp : 0 < sz) (hE : OpensZ enc P w base spare held e E Z) :
    OpensZ enc P w base spare held t (fun B w cs (l : List α) => ∃ v, cs = [v] ∧ RdL E sz B w v l) (fun l => l.length * by_ ≤ reachBytes ∧ ∀ a ∈ l, Z a) := fun fuel cs x h hw => by
  subst hc hby
  obtain ⟨v, l, h1, h2, h3⟩ := open_cellsZ ht hp hE h hw
  exact ⟨l, ⟨v, h1, h2⟩, h3⟩
theorem open_listZ {t e : TypeId} {r : Reach} {b0 : Nat} {v : Value} {d : DataW H} {p : List MemPlace} (sz by_ : Nat) (ht : P.underlying t = some (.slice e)) (hc : P.cellsOf e = sz) (hby : P.bytesOf e = by_) (hp : 0 < sz) (hE : OpensZ enc P w base spare held e E Z)
    (hv : Value.okWide P w r b0 t v) (h : DataW.Trod enc P w base spare held t v d p) (hw : Few P t d) : ∃ l : List α, RdL E sz w.heap.size w v l ∧ l.length * by_ ≤ reachBytes ∧ ∀ a ∈ l, Z a := by
  obtain ⟨A, n, c, rfl⟩ := Go.WideShapes.okWide_slice ht hv
  obtain ⟨fuel, hf⟩ := h
  subst hc hby
  obtain ⟨v', l, h1, h2, h3⟩ := open_cellsZ ht hp hE hf hw
  simp [Value.cells] at h1
  subst h1
  exact ⟨l, h2, h3⟩
theorem opens_test {e : TypeId} {f0 f1 f2 : Field} (hs : P.underlying e = some (.struct #[f0, f1, f2])) (hone : oneCellFields P #[f0, f1, f2] = true) (hC : P.cellsOf e = 3) (h0 : P.underlying f0.type = some (.int .i64)) (h1 : P.underlying f1.type = some .string) (h2 : P.underlying f2.type = some .string) :
    Opens enc P w base spare held e testE := fun fuel cs x h => by
  obtain ⟨xs, n, _, hx, hlc, hlen, hg⟩ := DataW.trod_struct hs h
  rw [hC] at hlc
  match cs, hlc with
  | [c0, c1, c2], _ =>
    obtain ⟨o0, k0⟩ := hone_of hone 0 f0 rfl
    obtain ⟨o1, k1⟩ := hone_of hone 1 f1 rfl
    obtain ⟨o2, k2⟩ := hone_of hone 2 f2 rfl
    match xs, hlen with
    | [y0, y1, y2], _ =>
      have g0 := hg 0 f0 rfl
      have g1 := hg 1 f1 rfl
      have g2 := hg 2 f2 rfl
      simp [o0, k0] at g0
      simp [o1, k1] at g1
      simp [o2, k2] at g2
      obtain ⟨z0, e0, _, m0⟩ := DataW.trod_int h0 g0
      obtain ⟨z1, e1, _, m1⟩ := DataW.trod_string h1 g1
      obtain ⟨z2, e2, _, m2⟩ := DataW.trod_string h2 g2
      simp at e0 e1 e2
      exact ⟨⟨z0, z1, z2⟩, by rw [e0, e1, e2], m1, m2, m0⟩
/-- How long the tests of a step may be. -/
def ZStp (x : Stp) : Prop := x.c.length * 40 ≤ reachBytes
theorem opens_step {e ea et : TypeId} {f0 f1 : Field} (hs : P.underlying e = some (.struct #[f0, f1])) (hone : oneCellFields P #[f0, f1] = true) (hC : P.cellsOf e = 2) (h0 : P.underlying f0.type = some (.slice et)) (h1 : P.underlying f1.type = some .bool)
    (hct : P.cellsOf et = 3) (hbt : P.bytesOf et = 40) (hot : Opens enc P w base spare held et testE) : OpensZ enc P w base spare held e stepE ZStp := fun fuel cs x h hw => by
  obtain ⟨xs, n, _, hx, hlc, hlen, hg⟩ := DataW.trod_struct hs h
  rw [hC] at hlc
  match cs, hlc with
  | [c0, c1], _ =>
    obtain ⟨o0, k0⟩ := hone_of hone 0 f0 rfl
    obtain ⟨o1, k1⟩ := hone_of hone 1 f1 rfl
    match xs, hlen with
    | [y0, y1], _ =>
      have g0 := hg 0 f0 rfl
      have g1 := hg 1 f1 rfl
      simp [o0, k0] at g0
      simp [o1, k1] at g1
      have hw0 : Few P f0.type y0.1 := by
        unfold Few at hw ⊢
        rw [hx] at hw
        simp only [List.map_cons, List.map_nil, DataW.weights, hs, DataW.weightsEach, List.all_append, Bool.and_eq_true] at hw
        exact hw.1
      obtain ⟨l0, ⟨v0, e0, m0⟩, z0, _⟩ := opens_sliceZ 3 40 h0 hct hbt (by omega) (Opens.z hot) _ _ _ g0 hw0
      obtain ⟨b1, e1, _⟩ := DataW.trod_bool h1 g1
      simp at e0 e1
      exact ⟨⟨l0, b1⟩, ⟨v0, by rw [e0, e1], m0⟩, z0⟩
theorem opens_stepU {e et : TypeId} {f0 f1 : Field} (hs : P.underlying e = some (.struct #[f0, f1])) (hone : oneCellFields P #[f0, f1] = true) (hC : P.cellsOf e = 2) (h0 : P.underlying f0.type = some (.slice et)) (h1 : P.underlying f1.type = some .bool)
    (hct : P.cellsOf et = 3) (hot : Opens enc P w base spare held et testE) : Opens enc P w base spare held e stepE := fun fuel cs x h => by
  obtain ⟨xs, n, _, hx, hlc, hlen, hg⟩ := DataW.trod_struct hs h
  rw [hC] at hlc
  match cs, hlc with
  | [c0, c1], _ =>
    obtain ⟨o0, k0⟩ := hone_of hone 0 f0 rfl
    obtain ⟨o1, k1⟩ := hone_of hone 1 f1 rfl
    match xs, hlen with
    | [y0, y1], _ =>
      have g0 := hg 0 f0 rfl
      have g1 := hg 1 f1 rfl
      simp [o0, k0] at g0
      simp [o1, k1] at g1
      obtain ⟨l0, v0, e0, m0⟩ := opens_slice 3 h0 hct (by omega) hot _ _ _ g0
      obtain ⟨b1, e1, _⟩ := DataW.trod_bool h1 g1
      simp at e0 e1
      exact ⟨⟨l0, b1⟩, v0, by rw [e0, e1], m0⟩
theorem opens_sel_Test {enc : TypeId × Value → H} {w : World} : Opens enc Tryz.prog w base spare held 102 testE :=
  opens_test Tryz.underlying102 (by kernel_rfl) (by kernel_rfl) Tryz.underlying3 Tryz.underlying9 Tryz.underlying9
set_option maxRecDepth 100000 in
theorem opens_sel_Step {enc : TypeId × Value → H} {w : World} : OpensZ enc Tryz.prog w base spare held 82 stepE ZStp :=
  opens_step (ea := 0) Tryz.underlying82 (by kernel_rfl) (by kernel_rfl) Tryz.underlying80 Tryz.underlying4 (by kernel_rfl) (by kernel_rfl) opens_sel_Test
/-- How long the rows of a selector may be. -/
def ZSel (l : Sel) : Prop := l.length * 24 ≤ reachBytes ∧ ∀ r ∈ l, r.length * 32 ≤ reachBytes ∧ ∀ x ∈ r, ZStp x
set_option maxRecDepth 100000 in
theorem opens_row {enc : TypeId × Value → H} {w : World} : OpensZ enc Tryz.prog w base spare held 77 rowE (fun r => r.length * 32 ≤ reachBytes ∧ ∀ x ∈ r, ZStp x) :=
  opens_sliceZ 2 32 Tryz.underlying77 (by kernel_rfl) (by kernel_rfl) (by omega) opens_sel_Step
set_option maxRecDepth 100000 in
theorem open_sel {enc : TypeId × Value → H} {w : World} {r : Reach} {b0 : Nat} {v : Value} {d : DataW H} {p : List MemPlace} (hv : Value.okWide Tryz.prog w r b0 63 v) (h : DataW.Trod enc Tryz.prog w base spare held 63 v d p) (hw : Few Tryz.prog 63 d) :
    ∃ l : Sel, RdSel w.heap.size w v l ∧ ZSel l := by
  obtain ⟨l, h1, h2, h3⟩ := open_listZ 1 24 Tryz.underlying63 (by kernel_rfl) (by kernel_rfl) (by omega) opens_row hv h hw
  exact ⟨l, h1, h2, h3⟩
set_option maxRecDepth 100000 in
theorem open_selU {enc : TypeId × Value → H} {w : World} {r : Reach} {b0 : Nat} {v : Value} {d : DataW H} {p : List MemPlace} (hv : Value.okWide Tryz.prog w r b0 63 v) (h : DataW.Trod enc Tryz.prog w base spare held 63 v d p) : ∃ l : Sel, RdSel w.heap.size w v l :=
  open_list 1 Tryz.underlying63 (by kernel_rfl) (by decide) (opens_slice 2 Tryz.underlying77 (by kernel_rfl) (by omega) (opens_stepU Tryz.underlying82 (by kernel_rfl) (by kernel_rfl) Tryz.underlying80 Tryz.underlying4 (by kernel_rfl) opens_sel_Test)) hv h
end
/-- A test by value. -/
theorem open_test {H : Type} {P : Program} {enc : TypeId × Value → H} {w : World} {base b0 : Nat} {spare : Nat → Bool} {held : Bool} {r : Reach} {e : TypeId} {fs : Array Field} {v : Value} {d : DataW H} {p : List MemPlace} (hs : P.underlying e = some (.struct fs)) (hE : Opens enc P w base spare held e testE)
    (hv : Value.okWide P w r b0 e v) (h : DataW.Trod enc P w base spare held e v d p) : ∃ t : Tst, v = .agg #[.int .i64 t.kind, .string t.name, .string t.value] ∧ t.name.size ≤ maxLen ∧ t.value.size ≤ maxLen ∧ (Lit.int .i64 t.kind).wf = true := by
  obtain ⟨cs, rfl, hsz⟩ := Go.WideShapes.okWide_struct hs hv
  obtain ⟨fuel, hf⟩ := h
  obtain ⟨o, ho, hk⟩ := hE fuel _ _ hf
  refine ⟨o, ?_, hk⟩
  have hc : cs.toList = [.int .i64 o.kind, .string o.name, .string o.value] := by simpa [Value.cells] using ho
  show Value.agg cs = _
  rw [← Array.toArray_toList (xs := cs), hc]
end Go.Proofs.YthdenkkllpkplaaGreat.Shapes
end
section
/- Selectors that are written out: how they read. -/
namespace Go.Proofs.YthdenkkllpkplaaGreat.Fi
open Go Go.RowKit Go.Proofs.YthdenkkllpkplaaGreat.Seq Go.Proofs.YthdenkkllpkplaaGreat.WS Go.Proofs.YthdenkkllpkplaaGreat.FS Go.Proofs.YthdenkkllpkplaaGreat.Mem Go.Proofs.YthdenkkllpkplaaGreat.Rd Go.Proofs.YthdenkkllpkplaaGreat.Shapes Go.Proofs.YthdenkkllpkplaaGreat.Word Go.Proofs.YthdenkkllpkplaaGreat.FFam
set_option linter.unusedVariables false
set_option linter.unusedSimpArgs false
theorem row_lit1 {w : World} {b : Nat} {va : Value} {a : List Tst} {ca : Bool} {T : TypeId} (h : w.heap[b]? = some (.cells #[va, .bool ca] T (0, 0))) (ha : RdL testE 3 w.heap.size w va a) : RdL stepE 2 w.heap.size w (.slice (some ⟨b, 0, none⟩) 1 1) [{ c := a, child := ca }] := by
  have l1 := lt_heap h
  refine ⟨_, 1, rfl, Nat.le_refl _, by decide, fun h0 => ⟨b, 0, rfl, l1, fun i hi => ?_⟩⟩
  obtain rfl : i = 0 := by simp at hi; exact hi
  refine ⟨[va, .bool ca], rfl, fun j u hj => ?_, va, rfl, ha⟩
  rw [cell_of_row _ _ _ _ _ _ h]
  match j with
  | 0 => simpa using hj
  | 1 => simpa using hj
  | j + 2 => simp at hj
theorem row_lit2 {w : World} {b : Nat} {va vb : Value} {a c : List Tst} {ca cb : Bool} {T : TypeId} (h : w.heap[b]? = some (.cells #[va, .bool ca, vb, .bool cb] T (0, 0))) (ha : RdL testE 3 w.heap.size w va a) (hc : RdL testE 3 w.heap.size w vb c) :
    RdL stepE 2 w.heap.size w (.slice (some ⟨b, 0, none⟩) 2 2) [{ c := a, child := ca }, { c := c, child := cb }] := by
  have l1 := lt_heap h
  refine ⟨_, 2, rfl, Nat.le_refl _, by decide, fun h0 => ⟨b, 0, rfl, l1, fun i hi => ?_⟩⟩
  have hi2 : i < 2 := hi
  match i, hi2 with
  | 0, _ =>
    refine ⟨[va, .bool ca], rfl, fun j u hj => ?_, va, rfl, ha⟩
    rw [cell_of_row _ _ _ _ _ _ h]
    match j with
    | 0 => simpa using hj
    | 1 => simpa using hj
    | j + 2 => simp at hj
  | 1, _ =>
    refine ⟨[vb, .bool cb], rfl, fun j u hj => ?_, vb, rfl, hc⟩
    rw [cell_of_row _ _ _ _ _ _ h]
    match j with
    | 0 => simpa using hj
    | 1 => simpa using hj
    | j + 2 => simp at hj
theorem sel_lit {w : World} {b n : Nat} {A : Option Addr} {r : Sro} {T : TypeId} (h : w.heap[b]? = some (.cells #[.slice A n n] T (0, 0))) (hr : RdL stepE 2 w.heap.size w (.slice A n n) r) : RdSel w.heap.size w (.slice (some ⟨b, 0, none⟩) 1 1) [r] := by
  have l1 := lt_heap h
  refine ⟨_, 1, rfl, Nat.le_refl _, by decide, fun h0 => ⟨b, 0, rfl, l1, fun i hi => ?_⟩⟩
  obtain rfl : i = 0 := by simp at hi; exact hi
  refine ⟨[.slice A n n], rfl, fun j u hj => ?_, _, rfl, hr⟩
  rw [cell_of_row _ _ _ _ _ _ h]
  match j with
  | 0 => simpa using hj
  | j + 1 => simp at hj
/-- The worlds behind a selector of one step, and of two. -/
theorem lit_one {w w' : World} {va : Value} {a : List Tst} (hw : (w.alloc (.cells #[va, .bool false] 82)).alloc (.cells #[.slice (some ⟨w.heap.size, 0, none⟩) 1 1] 77) = w') (ha : RdL testE 3 w.heap.size w va a) :
    RdSel w'.heap.size w' (.slice (some ⟨w.heap.size + 1, 0, none⟩) 1 1) [[{ c := a }]] ∧ Below w.heap.size w w' ∧ w'.heap.size = w.heap.size + 2 := by
  have hb0 : Below w.heap.size w w' := by rw [← hw]; exact ((Below.refl _ _).alloc (Nat.le_refl _) _).alloc (by simp) _
  have q0 : w'.heap[w.heap.size]? = some (.cells #[va, .bool false] 82 (0, 0)) := by rw [← hw]; exact heap_old (World.alloc_heap_new w _)
  have q1 : w'.heap[w.heap.size + 1]? = some (.cells #[.slice (some ⟨w.heap.size, 0, none⟩) 1 1] 77 (0, 0)) := by rw [← hw]; exact heap_new (by simp)
  exact ⟨sel_lit q1 (row_lit1 q0 ((ha.below testE_keeps hb0 (Nat.le_refl _)).mono testE_keeps hb0.size)), hb0, by rw [← hw]; simp⟩
theorem lit_two {w w' : World} {va vb : Value} {a c : List Tst} {ch : Bool} (hw : (w.alloc (.cells #[va, .bool false, vb, .bool ch] 82)).alloc (.cells #[.slice (some ⟨w.heap.size, 0, none⟩) 2 2] 77) = w') (ha : RdL testE 3 w.heap.size w va a) (hc : RdL testE 3 w.heap.size w vb c) :
    RdSel w'.heap.size w' (.slice (some ⟨w.heap.size + 1, 0, none⟩) 1 1) [[{ c := a }, { c := c, child := ch }]] ∧ Below w.heap.size w w' ∧ w'.heap.size = w.heap.size + 2 := by
  have hb0 : Below w.heap.size w w' := by rw [← hw]; exact ((Below.refl _ _).alloc (Nat.le_refl _) _).alloc (by simp) _
  have q0 : w'.heap[w.heap.size]? = some (.cells #[va, .bool false, vb, .bool ch] 82 (0, 0)) := by rw [← hw]; exact heap_old (World.alloc_heap_new w _)
  have q1 : w'.heap[w.heap.size + 1]? = some (.cells #[.slice (some ⟨w.heap.size, 0, none⟩) 2 2] 77 (0, 0)) := by rw [← hw]; exact heap_new (by simp)
  exact ⟨sel_lit q1 (row_lit2 q0 ((ha.below testE_keeps hb0 (Nat.le_refl _)).mono testE_keeps hb0.size) ((hc.below testE_keeps hb0 (Nat.le_refl _)).mono testE_keeps hb0.size)), hb0, by rw [← hw]; simp⟩
/-- A row of one test. -/
theorem one_test {w : World} {b : Nat} {t : Tst} {T : TypeId} (h : w.heap[b]? = some (.cells #[.int .i64 t.kind, .string t.name, .string t.value] T (0, 0))) (hk : t.name.size ≤ maxLen ∧ t.value.size ≤ maxLen ∧ (Lit.int .i64 t.kind).wf = true) : RdL testE 3 w.heap.size w (.slice (some ⟨b, 0, none⟩) 1 1) [t] := by
  have l1 := lt_heap h
  refine ⟨_, 1, rfl, Nat.le_refl _, by decide, fun h0 => ⟨b, 0, rfl, l1, fun i hi => ?_⟩⟩
  obtain rfl : i = 0 := by simp at hi; exact hi
  refine ⟨[.int .i64 t.kind, .string t.name, .string t.value], rfl, fun j u hj => ?_, rfl, hk.1, hk.2.1, hk.2.2⟩
  rw [cell_of_row _ _ _ _ _ _ h]
  match j with
  | 0 => simpa using hj
  | 1 => simpa using hj
  | 2 => simpa using hj
  | j + 3 => simp at hj
end Go.Proofs.YthdenkkllpkplaaGreat.Fi
end
