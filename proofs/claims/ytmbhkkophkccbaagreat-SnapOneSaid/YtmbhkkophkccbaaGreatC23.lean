import Derived.Test.YtmbhkkophkccbaaGreatC22
section
namespace Go.Proofs.YtmbhkkophkccbaaGreat.Fi
open Go Go.RowKit WS FS Fn Pa Grown
set_option linter.unusedVariables false
theorem getD_rev {l : List Int} {k : Nat} (hk : k < l.length) : l.reverse.getD k 0 = l.getD (l.length - 1 - k) 0 := by
 rw [List.getD_eq_getElem?_getD, List.getElem?_reverse hk, List.getD_eq_getElem?_getD]
theorem one_step (f : Fo) (x : Stp) (way : List Int) (now : List Bool) {k : Nat} (hk : k < way.length) : (stepL f x true way now).getD k false = fitsC (at_ f (way.getD k 0)) x.c := by
 unfold stepL
 rw [List.getD_eq_getElem?_getD, List.getElem?_map, List.getElem?_range hk]
 simp
theorem one_ends (f : Fo) (n : Nat) (i : Int) (hn : 1 ≤ n) (x : Stp) : endsB f (upL f n i).reverse [x] = fitsC (at_ f i) x.c := by
 obtain ⟨m, rfl⟩ : ∃ m, n = m + 1 := ⟨n - 1, by omega⟩
 have hl : (upL f (m + 1) i).reverse.length = m + 1 := by rw [List.length_reverse, up_len]
 unfold endsB endsL endsL
 rw [hl, one_step _ _ _ _ (by omega), getD_rev (by rw [up_len]; omega), up_len]
 simp [upL]
theorem two_ends (f : Fo) (n : Nat) (i : Int) (x y : Stp) : endsB f (upL f (n + 1) i).reverse [x, y] = ((if y.child then decide (0 < n) && fitsC (at_ f (at_ f i).parent) x.c else (upL f n (at_ f i).parent).any (fun k => fitsC (at_ f k) x.c)) && fitsC (at_ f i) y.c) := by
 have hl : (upL f (n + 1) i).reverse.length = n + 1 := by rw [List.length_reverse, up_len]
 unfold endsB endsL endsL endsL
 rw [hl]
 obtain ⟨now, hnow⟩ : ∃ now, now = stepL f x true (upL f (n + 1) i).reverse (List.replicate (n + 1) false) := ⟨_, rfl⟩
 rw [← hnow]
 have hg : (upL f (n + 1) i).reverse.getD n 0 = i := by
  rw [getD_rev (by rw [up_len]; omega), up_len]
  simp [upL]
 have hnl : now = (upL f (n + 1) i).reverse.map (fun k => fitsC (at_ f k) x.c) := by
  rw [hnow]
  refine List.ext_getElem (by rw [stepL_length, List.length_map]) (fun k h1 h2 => ?_)
  rw [stepL_length] at h1
  have := one_step f x (upL f (n + 1) i).reverse (List.replicate (n + 1) false) h1
  rw [List.getD_eq_getElem?_getD, List.getElem?_eq_getElem (by rw [stepL_length]; exact h1), Option.getD_some, List.getD_eq_getElem?_getD, List.getElem?_eq_getElem h1, Option.getD_some] at this
  rw [this, List.getElem_map]
 have e : stepL f y false (upL f (n + 1) i).reverse now = (List.range (n + 1)).map (fun k => (if y.child then decide (0 < k) && now.getD (k - 1) false else (now.take k).any id) && fitsC (at_ f ((upL f (n + 1) i).reverse.getD k 0)) y.c) := by
  unfold stepL
  rw [hl]
  simp
 rw [e, List.getD_eq_getElem?_getD, List.getElem?_map, List.getElem?_range (by omega)]
 simp only [Nat.add_sub_cancel, Option.map_some, Option.getD_some, hg]
 have hch : (decide (0 < n) && now.getD (n - 1) false) = (decide (0 < n) && fitsC (at_ f (at_ f i).parent) x.c) := by
  cases n with
  | zero => rfl
  | succ m =>
   simp only [Nat.add_sub_cancel]
   congr 1
   rw [hnl, List.getD_eq_getElem?_getD, List.getElem?_map, List.getElem?_reverse (by rw [up_len]; omega), up_len]
   simp only [show m + 1 + 1 - 1 - m = 1 by omega]
   simp [upL]
 have hab : (now.take n).any id = (upL f n (at_ f i).parent).any (fun k => fitsC (at_ f k) x.c) := by
  rw [hnl, upL, List.reverse_cons, List.map_append, List.take_append_of_le_length (by rw [List.length_map, List.length_reverse, up_len]; omega), List.take_of_length_le (by rw [List.length_map, List.length_reverse, up_len]; omega), List.any_map, List.any_reverse]
  rfl
 rw [hch, hab]
 simp
theorem mem_up {f : Fo} : ∀ (n : Nat) (i x : Int), Up f n i → (x ∈ upL f n i ↔ 0 ≤ x ∧ ∃ m, FS.Reach f m i x)
 | 0, i, x, h => by
  have h0 : i < 0 := h
  constructor
  ·intro hx; cases hx
  ·rintro ⟨h1, m, hm⟩
   cases m with
   | zero => have : i = x := hm; omega
   | succ m => have := hm.1; omega
 | n + 1, i, x, h => by
  rw [upL, List.mem_cons, mem_up n _ x h.2]
  constructor
  ·rintro (rfl | ⟨h1, m, hm⟩)
   ·exact ⟨h.1, 0, rfl⟩
   ·exact ⟨h1, m + 1, h.1, hm⟩
  ·rintro ⟨h1, m, hm⟩
   cases m with
   | zero => exact .inl hm.symm
   | succ m => exact .inr ⟨h1, m, hm.2⟩
def condB (f : Fo) (a : List Tst) (ch : Bool) (id up : Int) : Prop := fitsC (at_ f up) a = true ∧ up ≠ id ∧ belowB f up id = true ∧ (ch = true → (at_ f id).parent = up)
noncomputable def condD (f : Fo) (a : List Tst) (ch : Bool) (id up : Int) : Bool := fitsC (at_ f up) a && decide (up ≠ id) && belowB f up id && (!ch || decide ((at_ f id).parent = up))
theorem condD_iff {f : Fo} {a : List Tst} {ch : Bool} {id up : Int} : condD f a ch id up = true ↔ condB f a ch id up := by
 unfold condD condB
 cases ch <;> simp [and_assoc]
noncomputable def wantB (f : Fo) (a : List Tst) (ch : Bool) (id : Int) (k : Nat) : Bool := (List.range k).any (fun (up : Nat) => condD f a ch id up)
theorem wantB_succ (f : Fo) (a : List Tst) (ch : Bool) (id : Int) (k : Nat) : wantB f a ch id (k + 1) = (wantB f a ch id k || condD f a ch id k) := by
 unfold wantB
 rw [List.range_succ, List.any_append]
 simp
theorem two_is {f : Fo} (hm : mayB f = true) {i : Nat} (hi : i < f.length) (x y : Stp) : isS f i [[x, y]] = (wantB f x.c y.child i f.length && fitsC (at_ f i) y.c) := by
 unfold isS wayOf
 have hn : isNode f (i : Int) = true := nodeI hi
 rw [hn]
 obtain ⟨N, hN⟩ := may_climbs hm i hi
 rw [depthOf_up hN]
 obtain ⟨n, rfl⟩ : ∃ n, N = n + 1 := by
  cases N with
  | zero => have : (i : Int) < 0 := hN; omega
  | succ n => exact ⟨n, rfl⟩
 simp only [List.any_cons, List.any_nil, Bool.or_false, Bool.true_and]
 rw [two_ends]
 congr 1
 have hmay := may_is hm
 have key : ∀ u : Int, (u ∈ upL f n (at_ f (i : Int)).parent ↔ (u ≠ i ∧ belowB f u i = true)) := fun u => by
  rw [mem_up n _ u hN.2, below_iff hm hn]
  constructor
  ·rintro ⟨h0, m, h2⟩
   refine ⟨fun e => ?_, h0, m + 1, hN.1, h2⟩
   subst e
   exact no_cycle (m := m) (f := f) (i := (i : Int)) ⟨hN.1, h2⟩ ⟨n + 1, hN⟩
  ·rintro ⟨h0, h1, m, h2⟩
   cases m with
   | zero => exact absurd h2.symm h0
   | succ m => exact ⟨h1, m, h2.2⟩
 have hnode : ∀ u : Int, u ∈ upL f n (at_ f (i : Int)).parent → ∃ k : Nat, u = k ∧ k < f.length := fun u hu => node_nat (upL_node hm n _ hN.2 (hmay.par i hi).2.1 u hu)
 unfold wantB
 rw [Bool.eq_iff_iff, List.any_eq_true]
 cases hc : y.child with
 | true =>
  rw [if_pos rfl, Bool.and_eq_true, decide_eq_true_eq]
  constructor
  ·rintro ⟨h0, h1⟩
   have hmem : (at_ f (i : Int)).parent ∈ upL f n (at_ f (i : Int)).parent := by
    cases n with
    | zero => omega
    | succ n => simp [upL]
   obtain ⟨k, hk, hkl⟩ := hnode _ hmem
   have h2 := (key _).1 hmem
   rw [hk] at h1 h2
   exact ⟨k, List.mem_range.2 hkl, condD_iff.2 ⟨h1, h2.1, h2.2, fun _ => hk⟩⟩
  ·rintro ⟨k, hk, h1⟩
   obtain ⟨h2, _, _, h3⟩ := condD_iff.1 h1
   have h4 := h3 rfl
   refine ⟨?_, by rw [h4]; exact h2⟩
   cases n with
   | zero => have : (at_ f (i : Int)).parent < 0 := hN.2; omega
   | succ n => omega
 | false =>
  rw [if_neg (by decide), List.any_eq_true]
  constructor
  ·rintro ⟨u, hu, h1⟩
   obtain ⟨k, rfl, hkl⟩ := hnode u hu
   have h2 := (key _).1 hu
   exact ⟨k, List.mem_range.2 hkl, condD_iff.2 ⟨h1, h2.1, h2.2, fun h => by cases h⟩⟩
  ·rintro ⟨k, hk, h1⟩
   obtain ⟨h2, h3, h4, _⟩ := condD_iff.1 h1
   exact ⟨k, (key _).2 ⟨h3, h4⟩, h2⟩
theorem one_is {f : Fo} (hm : mayB f = true) {i : Nat} (hi : i < f.length) (x : Stp) : isS f i [[x]] = fitsC (at_ f i) x.c := by
 unfold isS wayOf
 rw [nodeI hi]
 obtain ⟨N, hN⟩ := may_climbs hm i hi
 rw [depthOf_up hN]
 have h1 : 1 ≤ N := by
  cases N with
  | zero => have : (i : Int) < 0 := hN; omega
  | succ n => omega
 simp only [List.any_cons, List.any_nil, Bool.or_false, Bool.true_and]
 exact one_ends f N _ h1 x
theorem two_sel (f : Fo) (i : Int) (a b : Sel) : isS f i (a ++ b) = (isS f i a || isS f i b) := by
 unfold isS
 rw [List.any_append]
 cases isNode f i <;> simp
theorem fits_more (n : Nd) (c : List Tst) (t : Tst) : fitsC n (c ++ [t]) = (fitsC n c && fitsC n [t]) := by
 unfold fitsC
 rw [List.all_append]
 cases decide (n.kind = 1) <;> simp
theorem two_fits {f : Fo} (hm : mayB f = true) {i : Nat} (hi : i < f.length) (x y : Stp) (h : isS f i [[x, y]] = true) : fitsC (at_ f i) y.c = true := by
 rw [two_is hm hi, Bool.and_eq_true] at h
 exact h.2
end Go.Proofs.YtmbhkkophkccbaaGreat.Fi
end
section
namespace Go.Proofs.YtmbhkkophkccbaaGreat.Fi
open Go Go.RowKit WS FS Fn Pa Grown
set_option linter.unusedVariables false
theorem comp_pre {s : ByteArray} {b : Nat} : ∀ (n : Nat) (c : List Tst) (a : Nat) {x : List Tst × Nat}, compLoop s b n c a = .ok x → ∃ r, x.1 = c ++ r
 | 0, c, a, x, h => by rw [compLoop] at h; cases h
 | n + 1, c, a, x, h => by
  rw [compLoop] at h
  have key : ∀ (t : Tst) (a' : Nat), compLoop s b n (c ++ [t]) a' = .ok x → ∃ r, x.1 = c ++ r := fun t a' h' => by
   obtain ⟨r, hr⟩ := comp_pre n _ _ h'
   exact ⟨t :: r, by rw [hr, List.append_assoc]; rfl⟩
  split at h
  ·split at h
   ·cases h
   ·exact key _ _ h
  ·split at h
   ·split at h
    ·cases h
    ·exact key _ _ h
   ·split at h
    ·split at h
     ·cases h
     ·exact key _ _ h
    ·split at h
     ·cases h
     ·injection h with h
      subst h
      exact ⟨[], by rw [List.append_nil]⟩
theorem row_pre {s : ByteArray} : ∀ (n : Nat) (l : Sro) (ch : Bool) (a : Nat) {x : Sro × Nat}, rowLoop s n l ch a = .ok x → ∃ y r, compoundP s a = .ok y ∧ x.1 = l ++ { c := y.1, child := ch } :: r
 | 0, l, ch, a, x, h => by rw [rowLoop] at h; cases h
 | n + 1, l, ch, a, x, h => by
  rw [rowLoop] at h
  cases hN : compoundP s a with
  | error e => rw [hN] at h; cases h
  | ok y =>
   rw [hN] at h
   simp only at h
   split at h
   ·injection h with h
    subst h
    exact ⟨y, [], rfl, rfl⟩
   ·split at h
    ·obtain ⟨_, r, _, hr⟩ := row_pre n _ _ _ h
     exact ⟨y, _ :: r, rfl, by rw [hr, List.append_assoc]; rfl⟩
    ·split at h
     ·obtain ⟨_, r, _, hr⟩ := row_pre n _ _ _ h
      exact ⟨y, _ :: r, rfl, by rw [hr, List.append_assoc]; rfl⟩
     ·cases h
theorem parse_pre {s : ByteArray} : ∀ (n : Nat) (l : Sel) (a : Nat) {x : Sel}, parseLoop s n l a = .ok x → ∃ y r, rowP s a = .ok y ∧ x = l ++ y.1 :: r
 | 0, l, a, x, h => by rw [parseLoop] at h; cases h
 | n + 1, l, a, x, h => by
  rw [parseLoop] at h
  cases hN : rowP s a with
  | error e => rw [hN] at h; cases h
  | ok y =>
   rw [hN] at h
   simp only at h
   split at h
   ·obtain ⟨_, r, _, hr⟩ := parse_pre n _ _ h
    exact ⟨y, _ :: r, rfl, by rw [hr, List.append_assoc]; rfl⟩
   ·injection h with h
    subst h
    exact ⟨y, [], rfl, rfl⟩
theorem id_parse {s : ByteArray} {t : Tst} {ch : Bool} (h0 : 0 < s.size) (h35 : nextB s 0 = 35) (h : parseP s = .ok [[{ c := [t], child := ch }]]) : t.kind = 2 ∧ 0 < t.name.size := by
 unfold parseP at h
 obtain ⟨y, r, hy, he⟩ := parse_pre _ _ _ h
 rw [List.nil_append] at he
 injection he with he1 he2
 unfold rowP at hy
 rw [end_stop (a := 0) (by rw [h35]; exact fun hx => absurd hx.2 (by decide))] at hy
 obtain ⟨z, r', hz, he3⟩ := row_pre _ _ _ _ hy
 rw [← he1, List.nil_append] at he3
 injection he3 with he4 he5
 injection he4 with he6 he7
 unfold compoundP at hz
 rw [if_neg (by unfold tookB; rw [h35, decide_eq_true h0]; decide), if_neg (by rw [h35]; decide), show s.size + 1 - 0 = s.size + 1 by omega, compLoop, if_neg (by rw [h35]; decide), if_pos h35] at hz
 split at hz
 ·cases hz
 ·rename_i x hx
  obtain ⟨r2, hr2⟩ := comp_pre _ _ _ hz
  rw [← he6, List.nil_append] at hr2
  injection hr2 with hr3 hr4
  subst hr3
  refine ⟨rfl, ?_⟩
  have ho := name_ok hx (by omega)
  unfold nameP at hx
  split at hx
  ·split at hx
   ·injection hx with hx
    subst hx
    simp only at ho ⊢
    rw [ByteArray.size_extract]
    omega
   ·cases hx
  ·cases hx
theorem id_hit {f : Fo} (hm : mayB f = true) {k : Int} (hk : isNode f k = true) {t : Tst} {ch : Bool} (h2 : t.kind = 2) (h0 : 0 < t.name.size) : isS f k [[{ c := [t], child := ch }]] = hitB f t.name k := by
 obtain ⟨i, rfl, hi⟩ := node_nat hk
 rw [one_is hm hi]
 have hne : t.name.size ≠ 0 := by omega
 unfold fitsC hitB attrVal attrErr
 rw [hk]
 simp only [List.all_cons, List.all_nil, Bool.and_true, if_false, decide_eq_true hne, Bool.true_eq_false]
 unfold soB
 rw [if_neg (by omega), if_pos h2]
 have hv : attrV f i idN = valA (at_ f i).attrs idS := rfl
 rw [hv]
 by_cases h1 : (at_ f (i : Int)).kind = 1
 ·rw [decide_eq_true h1]
  simp only [h1, ne_eq, not_true_eq_false, if_false, Bool.true_and]
  cases hx : valA (at_ f (i : Int)).attrs idS with
  | none => simp
  | some v => simp
 ·simp [h1]
theorem id_find {f : Fo} (hm : mayB f = true) {t : Tst} {ch : Bool} (h2 : t.kind = 2) (h0 : 0 < t.name.size) : (Wk.orderL f 0).find? (fun k => isS f k [[{ c := [t], child := ch }]]) = byId f t.name := by
 have hmay := may_is hm
 have hn : isNode f 0 = true := nodeI (i := 0) (by have := hmay.len; omega)
 unfold byId Wk.orderL
 rw [if_pos hn]
 have : ∀ l : List Int, (∀ k ∈ l, isNode f k = true) → l.find? (fun k => isS f k [[{ c := [t], child := ch }]]) = l.find? (hitB f t.name) := fun l => by
  induction l with
  | nil => intro _; rfl
  | cons x l ih =>
   intro hl
   rw [List.find?_cons, List.find?_cons, id_hit hm (hl x (by simp)) h2 h0, ih (fun k hk => hl k (by simp [hk]))]
 exact this _ (fun k hk => ((order_mem hmay hn k).1 hk).1)
end Go.Proofs.YtmbhkkophkccbaaGreat.Fi
end
