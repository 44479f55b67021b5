import Derived.Deep.AppendLies
import Derived.Deep.RegionLaw
import Derived.Test.YtmbhkkophkccbaaGreatC23
import Derived.Test.YtmbhkkophkccbaaGreatC01
import Derived.Test.YtmbhkkophkccbaaGreatC08
import Derived.Test.YtmbhkkophkccbaaGreatC09
import Derived.Test.YtmbhkkophkccbaaGreatC02
import Derived.Test.YtmbhkkophkccbaaGreatC11
section
namespace Go.Proofs.YtmbhkkophkccbaaGreat.Fi
open Go Go.RowKit WS FS Fn Pa Grown
set_option linter.unusedVariables false
def aheadB (f : Fo) (now : List Bool) (x : Stp) (first : Bool) (n : Nat) (id : Int) : Bool :=
 first || (if x.child then decide (0 ≤ (at_ f id).parent) && now.getD (at_ f id).parent.toNat false else (upL f (n - 1) (at_ f id).parent).any (fun u => now.getD u.toNat false))
noncomputable def rStep (f : Fo) (x : Stp) (first : Bool) (now : List Bool) : List Bool := (List.range f.length).map (fun (id : Nat) => aheadB f now x first (depthOf f id) id && fitsC (at_ f id) x.c)
noncomputable def rEnds (f : Fo) : Bool → List Bool → Sro → List Bool
 | _, now, [] => now
 | first, now, x :: r => rEnds f false (rStep f x first now) r
def upR (f : Fo) : Nat → Int → Int
 | 0, i => i
 | n + 1, i => upR f n (at_ f i).parent
theorem upL_cut (f : Fo) : ∀ (a b : Nat) (i : Int), upL f (a + b) i = upL f a i ++ upL f b (upR f a i)
 | 0, b, i => by rw [Nat.zero_add]; rfl
 | a + 1, b, i => by rw [show a + 1 + b = (a + b) + 1 by omega, upL, upL_cut f a b, upL, upR]; rfl
theorem up_cut {f : Fo} : ∀ (a b : Nat) (i : Int), Up f (a + b) i → Up f b (upR f a i)
 | 0, b, i, h => by rw [Nat.zero_add] at h; exact h
 | a + 1, b, i, h => by
  rw [show a + 1 + b = (a + b) + 1 by omega] at h
  exact up_cut a b _ h.2
theorem way_at {f : Fo} {n : Nat} {i : Int} (h : Up f n i) {k : Nat} (hk : k < n) : ∃ u : Int, Up f (k + 1) u ∧ (upL f n i).reverse.getD k 0 = u ∧ (upL f n i).reverse.take k = (upL f k (at_ f u).parent).reverse := by
 obtain ⟨a, rfl⟩ : ∃ a, n = a + (k + 1) := ⟨n - (k + 1), by omega⟩
 refine ⟨upR f a i, up_cut _ _ _ h, ?_, ?_⟩
 ·rw [getD_rev (by rw [up_len]; omega), up_len, upL_cut, List.getD_eq_getElem?_getD, List.getElem?_append_right (by rw [up_len]; omega), up_len, show a + (k + 1) - 1 - k - a = 0 by omega]
  simp [upL]
 ·rw [upL_cut, List.reverse_append, upL, List.reverse_cons, List.append_assoc, List.take_append_of_le_length (by rw [List.length_reverse, up_len]; omega), List.take_of_length_le (by rw [List.length_reverse, up_len]; omega)]
theorem rStep_length (f : Fo) (x : Stp) (first : Bool) (now : List Bool) : (rStep f x first now).length = f.length := by unfold rStep; simp
theorem rEnds_length {f : Fo} : ∀ (r : Sro) (first : Bool) (now : List Bool), now.length = f.length → (rEnds f first now r).length = f.length
 | [], _, _, h => h
 | x :: r, first, now, h => rEnds_length r false _ (rStep_length _ _ _ _)
theorem along_step {f : Fo} (hm : mayB f = true) (x : Stp) (first : Bool) {now : List Bool} {n : Nat} {i : Int} (hi : isNode f i = true) (h : Up f n i) {nw : List Bool} (hl : nw.length = n)
  (hk : ∀ k, k < n → nw.getD k false = now.getD ((upL f n i).reverse.getD k 0).toNat false) : ∀ k, k < n → (stepL f x first (upL f n i).reverse nw).getD k false = (rStep f x first now).getD ((upL f n i).reverse.getD k 0).toNat false := by
 intro k hkn
 obtain ⟨u, hu, hg, ht⟩ := way_at h hkn
 have hil : i < f.length := ((node_iff f i).1 hi).2
 have hmem : u ∈ upL f n i := by
  have : u ∈ (upL f n i).reverse := by
   rw [← hg, List.getD_eq_getElem?_getD, List.getElem?_eq_getElem (by rw [List.length_reverse, up_len]; exact hkn), Option.getD_some]
   exact List.getElem_mem _
  exact List.mem_reverse.1 this
 obtain ⟨m, rfl, hml⟩ := node_nat (upL_node hm n i h hil u hmem)
 rw [hg]
 unfold stepL rStep
 rw [List.getD_eq_getElem?_getD, List.getElem?_map, List.getElem?_range (by rw [List.length_reverse, up_len]; exact hkn), List.getD_eq_getElem?_getD, Int.toNat_natCast, List.getElem?_map, List.getElem?_range hml]
 simp only [Option.map_some, Option.getD_some, hg]
 congr 1
 unfold aheadB
 rw [depthOf_up hu]
 simp only [Nat.add_sub_cancel]
 cases first with
 | true => simp
 | false =>
  simp only [Bool.not_false, Bool.true_and, Bool.false_or]
  have hpar : ∀ j, j < k → (upL f k (at_ f (m : Int)).parent).reverse.getD j 0 = (upL f n i).reverse.getD j 0 := fun j hj => by
   rw [← ht, List.getD_eq_getElem?_getD, List.getElem?_take_of_lt hj, ← List.getD_eq_getElem?_getD]
  cases x.child with
  | true =>
   rw [if_pos rfl, if_pos rfl]
   cases k with
   | zero =>
    have : (at_ f (m : Int)).parent < 0 := hu.2
    rw [decide_eq_false (by omega), decide_eq_false (by omega)]
    rfl
   | succ k =>
    have h1 := hu.2.1
    rw [decide_eq_true (by omega), decide_eq_true h1, Bool.true_and, Bool.true_and, Nat.add_sub_cancel, hk k (by omega), ← hpar k (by omega), getD_rev (by rw [up_len]; omega), up_len, show k + 1 - 1 - k = 0 by omega]
    simp [upL]
  | false =>
   rw [if_neg (by decide), if_neg (by decide)]
   rw [Bool.eq_iff_iff, List.any_eq_true, List.any_eq_true]
   constructor
   ·rintro ⟨b, hb, hb1⟩
    obtain ⟨j, hj, rfl⟩ := List.mem_iff_getElem.1 hb
    rw [List.length_take] at hj
    have e := hk j (by omega)
    rw [List.getElem_take] at hb1
    rw [List.getD_eq_getElem?_getD, List.getElem?_eq_getElem (by omega), Option.getD_some] at e
    refine ⟨(upL f k (at_ f (m : Int)).parent).reverse.getD j 0, ?_, by rw [hpar j (by omega), ← e]; exact hb1⟩
    rw [List.getD_eq_getElem?_getD, List.getElem?_eq_getElem (by rw [List.length_reverse, up_len]; omega), Option.getD_some]
    exact List.mem_reverse.1 (List.getElem_mem _)
   ·rintro ⟨u, hu1, hu2⟩
    obtain ⟨j, hj, hju⟩ := List.mem_iff_getElem.1 (List.mem_reverse.2 hu1)
    rw [List.length_reverse, up_len] at hj
    have e := hk j (by omega)
    rw [← hpar j hj, List.getD_eq_getElem?_getD (l := (upL f k (at_ f (m : Int)).parent).reverse), List.getElem?_eq_getElem (by rw [List.length_reverse, up_len]; exact hj), Option.getD_some, hju, hu2] at e
    refine ⟨nw[j], ?_, ?_⟩
    ·rw [List.mem_take_iff_getElem]
     exact ⟨j, by omega, rfl⟩
    ·rw [List.getD_eq_getElem?_getD, List.getElem?_eq_getElem (by omega), Option.getD_some] at e
     exact e
theorem along_ends {f : Fo} (hm : mayB f = true) {n : Nat} {i : Int} (hi : isNode f i = true) (h : Up f n i) : ∀ (r : Sro) (first : Bool) (nw now : List Bool), nw.length = n →
  (∀ k, k < n → nw.getD k false = now.getD ((upL f n i).reverse.getD k 0).toNat false) → ∀ k, k < n → (endsL f (upL f n i).reverse first nw r).getD k false = (rEnds f first now r).getD ((upL f n i).reverse.getD k 0).toNat false
 | [], _, nw, now, hl, hk, k, hkn => hk k hkn
 | x :: r, first, nw, now, hl, hk, k, hkn => by
  rw [endsL, rEnds]
  exact along_ends hm hi h r false _ _ (by rw [stepL_length, List.length_reverse, up_len]) (along_step hm x first hi h hl hk) k hkn
theorem ends_same {f : Fo} (hm : mayB f = true) {i : Nat} (hi : i < f.length) (r : Sro) : (rEnds f true (List.replicate f.length false) r).getD i false = endsB f (wayOf f i) r := by
 obtain ⟨N, hN⟩ := may_climbs hm i hi
 have hn : isNode f (i : Int) = true := nodeI hi
 unfold wayOf
 rw [depthOf_up hN]
 obtain ⟨n, rfl⟩ : ∃ n, N = n + 1 := by
  cases N with
  | zero => have : (i : Int) < 0 := hN; omega
  | succ n => exact ⟨n, rfl⟩
 have hl : (upL f (n + 1) i).reverse.length = n + 1 := by rw [List.length_reverse, up_len]
 have hg : (upL f (n + 1) i).reverse.getD n 0 = i := by
  rw [getD_rev (by rw [up_len]; omega), up_len]
  simp [upL]
 have rep : ∀ (m k : Nat), (List.replicate m false).getD k false = false := fun m k => by
  rw [List.getD_eq_getElem?_getD, List.getElem?_replicate]
  split <;> rfl
 unfold endsB
 rw [hl]
 cases r with
 | nil =>
  rw [rEnds, rep]
  simp
 | cons x r =>
  rw [decide_eq_true (by simp), Bool.true_and, Nat.add_sub_cancel]
  rw [along_ends hm hn hN (x :: r) true (List.replicate (n + 1) false) (List.replicate f.length false) (by simp) (fun k hk => by rw [rep, rep]) n (by omega), hg, Int.toNat_natCast]
theorem ref_is {f : Fo} (hm : mayB f = true) (i : Int) (l : Sel) : isS f i l = (isNode f i && l.any (fun r => (rEnds f true (List.replicate f.length false) r).getD i.toNat false)) := by
 unfold isS
 cases h : isNode f i with
 | false => rfl
 | true =>
  obtain ⟨k, rfl, hk⟩ := node_nat h
  simp only [Bool.true_and, Int.toNat_natCast, ends_same hm hk]
end Go.Proofs.YtmbhkkophkccbaaGreat.Fi
end
section
namespace Go.Proofs.YtmbhkkophkccbaaGreat.R2
open Go.Proofs.YtmbhkkophkccbaaGreat.WS
set_option linter.unusedVariables false
theorem words_cut (y : UInt8) (hb10 : isBlank y = true) (l : List UInt8) : ∀ (t : List UInt8), words (l ++ y :: t) = words l ++ words t := by
 induction h : l.length using Nat.strongRecOn generalizing l with
 | _ n ih =>
  intro t
  by_cases ht : trimB l = []
  ·have hall : ∀ b ∈ l, isBlank b = true := by
    intro b hb
    unfold trimB at ht
    clear ih h
    induction l with
    | nil => cases hb
    | cons x l ihl =>
     rw [List.dropWhile_cons] at ht
     cases hx : isBlank x with
     | false => rw [hx] at ht; cases ht
     | true =>
      rw [hx] at ht
      rcases List.mem_cons.1 hb with rfl | hb
      ·exact hx
      ·exact ihl ht hb
   have hd : trimB (l ++ y :: t) = trimB t := by
    unfold trimB
    rw [List.dropWhile_append, (by unfold trimB at ht; exact ht : List.dropWhile isBlank l = [])]
    simp [hb10]
   rw [words_nil ht, List.nil_append]
   by_cases h0 : trimB t = []
   ·rw [words_nil h0, words_nil (by rw [hd, h0])]
   ·rw [words_cons h0, words_cons (by rw [hd]; exact h0), hd]
  ·have e : trimB (l ++ y :: t) = trimB l ++ y :: t := by
    unfold trimB at ht ⊢
    rw [List.dropWhile_append]
    simp [ht]
   have h1 := tailB_lt ht
   have h2 := trimB_le l
   have key : ∀ u : List UInt8, headB (u ++ y :: t) = headB u ∧ tailB (u ++ y :: t) = tailB u ++ y :: t := by
    intro u
    induction u with
    | nil => constructor <;> simp [headB, tailB, hb10]
    | cons x u ihu =>
     cases hx : isBlank x with
     | true => constructor <;> simp [headB, tailB, hx]
     | false =>
      obtain ⟨i1, i2⟩ := ihu
      unfold headB at i1
      unfold tailB at i2
      constructor
      ·simp only [headB, List.cons_append, List.takeWhile_cons, hx]; simpa using i1
      ·simp only [tailB, List.cons_append, List.dropWhile_cons, hx]; simpa using i2
   rw [words_cons (by rw [e]; simp), e, (key _).1, (key _).2, words_cons ht, ih _ (by omega) _ rfl t, List.cons_append]

theorem words_none : words [] = [] := words_nil rfl
theorem words_one {l : List UInt8} (h : ∀ b ∈ l, isBlank b = false) (hne : l ≠ []) : words l = [l] := by
 have ht : trimB l = l := by
  cases l with
  | nil => rfl
  | cons b t => unfold trimB; rw [List.dropWhile_cons, h b (by simp)]; rfl
 have hh : headB l = l := by
  have key : ∀ u : List UInt8, (∀ b ∈ u, isBlank b = false) → headB u = u := fun u => by
   induction u with
   | nil => intro _; rfl
   | cons b u ih =>
    intro hu
    have := ih (fun c hc => hu c (by simp [hc]))
    unfold headB at this ⊢
    rw [List.takeWhile_cons, hu b (by simp), this]
    rfl
  exact key l h
 have htl : tailB l = [] := by
  have := head_tail l
  rw [hh] at this
  exact List.append_right_eq_self.1 this
 rw [words_cons (by rw [ht]; exact hne), ht, hh, htl, words_none]
def TokI (s : List UInt8) (i : Nat) (out : List (List UInt8)) (w : List UInt8) : Prop := ∃ p, s.take i = p ++ w ∧ (∀ b ∈ w, isBlank b = false) ∧ out = once (words p) ∧ ∀ t, words (p ++ t) = words p ++ words t
def flush (out : List (List UInt8)) (w : List UInt8) : List (List UInt8) := if w = [] ∨ w ∈ out then out else out ++ [w]
theorem flush_once {p w : List UInt8} (hw : ∀ b ∈ w, isBlank b = false) : flush (once (words p)) w = once (words p ++ words w) := by
 unfold flush
 by_cases h : w = []
 ·subst h
  rw [if_pos (.inl rfl), words_none, List.append_nil]
 ·rw [words_one hw h, once_snoc]
  by_cases h2 : w ∈ once (words p)
  ·rw [if_pos (.inr h2), if_pos h2]
  ·rw [if_neg (fun hx => hx.elim h h2), if_neg h2]
theorem TokI.zero (s : List UInt8) : TokI s 0 [] [] := ⟨[], rfl, fun b hb => (by cases hb), by rw [words_none]; rfl, fun t => by rw [words_none]; rfl⟩
theorem TokI.face {s : List UInt8} {i : Nat} {out : List (List UInt8)} {w : List UInt8} (h : TokI s i out w) (hi : i < s.length) (hb : isBlank s[i] = false) : TokI s (i + 1) out (w ++ [s[i]]) := by
 obtain ⟨p, h1, h2, h3, h4⟩ := h
 refine ⟨p, by rw [List.take_succ_eq_append_getElem hi, h1, List.append_assoc], fun b hx => ?_, h3, h4⟩
 rw [List.mem_append, List.mem_singleton] at hx
 rcases hx with hx | rfl
 ·exact h2 b hx
 ·exact hb
theorem TokI.blank {s : List UInt8} {i : Nat} {out : List (List UInt8)} {w : List UInt8} (h : TokI s i out w) (hi : i < s.length) (hb : isBlank s[i] = true) : TokI s (i + 1) (flush out w) [] := by
 obtain ⟨p, h1, h2, h3, h4⟩ := h
 have e : ∀ t, words (p ++ w ++ [s[i]] ++ t) = words p ++ words w ++ words t := fun t => by
  rw [show p ++ w ++ [s[i]] ++ t = p ++ (w ++ s[i] :: t) by simp, h4, words_cut _ hb, List.append_assoc]
 have e0 : words (p ++ w ++ [s[i]]) = words p ++ words w := by
  have := e []
  rw [List.append_nil, words_none, List.append_nil] at this
  exact this
 refine ⟨p ++ w ++ [s[i]], by rw [List.take_succ_eq_append_getElem hi, h1, List.append_nil], fun b hx => (by cases hx), by rw [h3, flush_once h2, e0], fun t => by rw [e, e0]⟩
theorem TokI.fin {s : List UInt8} {out : List (List UInt8)} {w : List UInt8} (h : TokI s s.length out w) : flush out w = once (words s) := by
 obtain ⟨p, h1, h2, h3, h4⟩ := h
 rw [List.take_length] at h1
 rw [h3, flush_once h2, h1, h4]
theorem TokI.len {s : List UInt8} {i : Nat} {out : List (List UInt8)} {w : List UInt8} (h : TokI s i out w) (hi : i ≤ s.length) : out.length + w.length ≤ i := by
 obtain ⟨p, h1, h2, h3, h4⟩ := h
 have e : (p ++ w).length = i := by rw [← h1, List.length_take]; omega
 rw [List.length_append] at e
 have h5 := once_length (words p)
 have h6 := words_length p
 rw [h3]
 omega
end Go.Proofs.YtmbhkkophkccbaaGreat.R2
end
section
namespace Go.Proofs.YtmbhkkophkccbaaGreat.R2
open Go Go.RowKit Go.Proofs.YtmbhkkophkccbaaGreat.Seq WS FS Mem Rd Shapes Word FFam
set_option linter.unusedVariables false
set_option linter.unusedSimpArgs false
theorem blank_is (b : UInt8) (h : isBlank b = true) : (b.toNat : Int) = 9 ∨ (b.toNat : Int) = 10 ∨ (b.toNat : Int) = 12 ∨ (b.toNat : Int) = 13 ∨ (b.toNat : Int) = 32 := by
 unfold isBlank at h
 simp only [Bool.or_eq_true, beq_iff_eq] at h
 rcases h with (((rfl | rfl) | rfl) | rfl) | rfl <;> simp
theorem blank_not (b : UInt8) (h : isBlank b = false) : ((b.toNat : Int) == 9) = false ∧ ((b.toNat : Int) == 10) = false ∧ ((b.toNat : Int) == 12) = false ∧ ((b.toNat : Int) == 13) = false ∧ ((b.toNat : Int) == 32) = false := by
 have key : ∀ n : Fin 256, isBlank (UInt8.ofNat n.val) = false → n.val ≠ 9 ∧ n.val ≠ 10 ∧ n.val ≠ 12 ∧ n.val ≠ 13 ∧ n.val ≠ 32 := by decide +kernel
 have := key ⟨b.toNat, b.toNat_lt⟩ (by simpa using h)
 simp only [beq_eq_false_iff_ne] at *
 omega
theorem blank_calls (b : UInt8) (w : World) : Calls Tryz.prog 221 #[.int .u8 (b.toNat : Int)] w fun e w' => e = .returned (.bool (isBlank b)) ∧ w = w' := by
 cases hb : isBlank b with
 | false =>
  obtain ⟨h1, h2, h3, h4, h5⟩ := blank_not b hb
  generalize (b.toNat : Int) = n at *
  go_enter Tryz.func221, Tryz.ntmps221
  go_wp2_with fail
  go_ret
  exact ⟨rfl, rfl⟩
 | true =>
  have h := blank_is b hb
  generalize (b.toNat : Int) = n at *
  rcases h with rfl | rfl | rfl | rfl | rfl
  all_goals
   go_enter Tryz.func221, Tryz.ntmps221
   go_wp2_with fail
   go_ret
   exact ⟨rfl, rfl⟩
def inB (x : ByteArray) (l : List ByteArray) : Bool := l.any (fun y => decide (y = x))
theorem inB_yes {x : ByteArray} {l : List ByteArray} (h : x ∈ l) : inB x l = true := List.any_eq_true.2 ⟨x, h, decide_eq_true rfl⟩
theorem inB_no {x : ByteArray} {l : List ByteArray} (h : x ∉ l) : inB x l = false := List.any_eq_false.2 (fun y hy => by
 rw [decide_eq_true_eq]
 rintro rfl
 exact h hy)
theorem in_calls (w : World) (v : Value) (l : List ByteArray) (h : RdL strE 1 w.heap.size w v l) (x : ByteArray) : Calls Tryz.prog 193 #[v, .string x] w fun e w' => e = .returned (.bool (inB x l)) ∧ w = w' := by
 obtain ⟨A0, c0, rfl, hl0, hc0, h'⟩ := h.form
 simp only [maxLen] at hc0
 have Hh := Lib.hid h'
 clear h h'
 go_enter Tryz.func193, Tryz.ntmps193
 go_wp2_with fail
 go_loop [5] (fun i => ∃ k : Nat, k ≤ l.length ∧ i = .int .i64 k ∧ Hid (x ∉ l.take k)) (fun i => l.length - (intOf i).toNat)
 case atStart => exact ⟨0, Nat.zero_le _, rfl, Lib.hid (by simp)⟩
 case round =>
  obtain ⟨k, hk, rfl, hn⟩ := hrel
  by_cases hlt : k < l.length
  ·obtain ⟨b, o, rfl, _, g0, gm⟩ := strE_at Hh.out hlt
   have hmem := List.getElem_mem hlt
   have htk : l.take (k + 1) = l.take k ++ [l[k]] := List.take_succ_eq_append_getElem hlt
   have Hmem := Lib.hid hmem; have Htk := Lib.hid htk
   clear hmem htk gm
   generalize l[k] = y at *
   have hs := FSame.str_beq y x
   by_cases e : y = x
   ·subst e
    have hd : (y.toList == y.toList) = true := by simp
    have hr : inB y l = true := inB_yes Hmem.out
    have Hr := Lib.hid hr
    clear hs hr
    go_wp2_with fail
    go_ret
    exact ⟨by rw [Hr.out]; rfl, rfl⟩
   ·have hd : (y.toList == x.toList) = false := by rw [hs]; exact decide_eq_false e
    have E := Lib.hid e
    clear hs e
    go_wp2_with fail
    go_round
    case rel => exact ⟨k + 1, by omega, by go_num, Lib.hid (by
     rw [Htk.out, List.mem_append, List.mem_singleton]
     rintro (h | h)
     ·exact hn.out h
     ·exact E.out h.symm)⟩
    case measure => simp [intOf]; omega
  ·obtain rfl : k = l.length := by omega
   have hr : inB x l = false := inB_no (by have := hn.out; rwa [List.take_length] at this)
   have Hr := Lib.hid hr
   clear hr hn
   go_wp2_with fail
   go_ret
   exact ⟨by rw [Hr.out]; rfl, rfl⟩
theorem fold_add (b : UInt8) (h1 : 65 ≤ (b.toNat : Int)) (h2 : (b.toNat : Int) ≤ 90) : ((foldB b).toNat : Int) = (b.toNat : Int) + 32 := by
 have hb : foldB b = b ||| 32 := by unfold foldB; rw [if_pos ⟨by omega, by omega⟩]
 rw [hb]
 have key : ∀ n : Fin 256, 65 ≤ n.val → n.val ≤ 90 → (((UInt8.ofNat n.val) ||| 32).toNat : Int) = (n.val : Int) + 32 := by decide +kernel
 have := key ⟨b.toNat, b.toNat_lt⟩ (by show 65 ≤ b.toNat; omega) (by show b.toNat ≤ 90; omega)
 simpa using this
def foldR (s : ByteArray) (k : Nat) : List Value := ((s.data.toList.take k).map foldB).map (fun b => .int .u8 (b.toNat : Int))
theorem foldR_len {s : ByteArray} {k : Nat} (h : k ≤ s.size) : (foldR s k).length = k := by
 unfold foldR
 rw [List.length_map, List.length_map, List.length_take, Array.length_toList]
 exact Nat.min_eq_left h
theorem foldR_succ {s : ByteArray} {k : Nat} (h : k < s.size) : foldR s (k + 1) = foldR s k ++ [.int .u8 ((foldB s[k]).toNat : Int)] := by
 unfold foldR
 rw [List.take_succ_eq_append_getElem (by rw [Array.length_toList]; exact h), List.map_append, List.map_append]
 rfl
theorem info_u8 : (Tryz.prog.info? 5).map (fun i => (i.zero, i.size, i.bytes)) = some (some (.int .u8 0), 1, 1) := by kernel_rfl
set_option maxRecDepth 100000 in
set_option maxHeartbeats 4000000 in
theorem Fold_calls (s : ByteArray) (hs : s.size ≤ 1000) (w : World) : Calls Tryz.prog 128 #[.string s] w fun e w' => e = .returned (.string ⟨s.data.map foldB⟩) ∧ Below w.heap.size w w' := by
 go_enter Tryz.func128, Tryz.ntmps128
 go_wp2_with fail
 go_loopw [3, 4] (fun u i wr => ∃ k : Nat, k ≤ s.size ∧ i = .int .i64 k ∧ (∃ g c, u = .slice (some ⟨g, 0, none⟩) k c) ∧ Hid (wr.ownsRow w.heap.size 5 1 u k (foldR s k)) ∧ Hid (Below w.heap.size w wr)) (fun _ i _ => s.size - (intOf i).toNat)
 case atStart => exact ⟨0, Nat.zero_le _, rfl, ⟨_, _, rfl⟩, Lib.hid (World.ownsRow_lit w #[] 0 (Nat.le_refl _) (by decide) rfl), Lib.hid ((Below.refl _ _).alloc (Nat.le_refl _) _)⟩
 case round =>
  obtain ⟨k, hk, rfl, ⟨gr, cr, rfl⟩, hrow, hb⟩ := hrel
  by_cases hlt : k < s.size
  ·have hs2 := foldR_succ hlt
   have hsame : ¬ (65 ≤ (s[k].toNat : Int) ∧ (s[k].toNat : Int) ≤ 90) → foldB s[k] = s[k] := foldB_same s[k]
   have hadd := fold_add s[k]
   have hbl := s[k].toNat_lt
   have hrl := foldR_len hk
   have hrow' := hrow.out
   obtain ⟨xs, hxs⟩ : ∃ xs, xs = foldR s k := ⟨_, rfl⟩
   rw [← hxs] at hs2 hrl hrow'
   have hrow2 : wr.ownsRow w.heap.size 5 1 (.slice (some ⟨gr, 0, none⟩) k cr) xs.length xs := by rw [hrl]; exact hrow'
   have Hrow := Lib.hid hrow2; have Hs2 := Lib.hid hs2; have Hsame := Lib.hid hsame; have Hadd := Lib.hid hadd; have Hrl := Lib.hid hrl
   clear hrow2 hrow' hs2 hsame hadd hrl hxs hrow
   by_cases h1 : 65 ≤ (s[k].toNat : Int)
   ·by_cases h2 : (s[k].toNat : Int) ≤ 90
    ·have Hy := Lib.hid (Hadd.out h1 h2)
     clear Hsame Hadd
     go_wp2_with (at_builtin; go_loud (refine Mem.pl_append _ w.heap.size rfl _ _ 208 5 (.int .u8 0) 1 rfl Tryz.underlying208 info_u8 rfl (.slice (some ⟨gr, 0, none⟩) k cr) xs (.int .u8 ((s[k].toNat : Int) + 32)) rfl (by simp [Act.eval]) rfl Hrow.out hb.out.size (by have := Hrl.out; omega) (by have := Hrl.out; simp only [maxLen]; omega) ?_); rintro v7 w17 hown7 hgrow7 ⟨g7, cap7, rfl, hat⟩; have Hown7 := Lib.hid hown7; have Hgrow7 := Lib.hid hgrow7; clear hown7 hgrow7 hat)
     go_roundw
     case rel =>
      refine ⟨k + 1, by omega, by go_num, ⟨g7, cap7, by rw [Hrl.out]⟩, Lib.hid ?_, Lib.hid (FTops.grown_below hb.out Hgrow7.out Hrow.out (Nat.le_refl _))⟩
      have h9 := Hown7.out
      rw [Hs2.out]
      rw [Hy.out]
      simpa only [List.length_append, List.length_cons, List.length_nil, Hrl.out, Nat.zero_add] using h9
     case measure => simp [intOf]; omega
    ·have Hy := Lib.hid (Hsame.out (by omega))
     clear Hsame Hadd
     go_wp2_with (at_builtin; go_loud (refine Mem.pl_append _ w.heap.size rfl _ _ 208 5 (.int .u8 0) 1 rfl Tryz.underlying208 info_u8 rfl (.slice (some ⟨gr, 0, none⟩) k cr) xs (.int .u8 (s[k].toNat : Int)) rfl (by simp [Act.eval]) rfl Hrow.out hb.out.size (by have := Hrl.out; omega) (by have := Hrl.out; simp only [maxLen]; omega) ?_); rintro v7 w17 hown7 hgrow7 ⟨g7, cap7, rfl, hat⟩; have Hown7 := Lib.hid hown7; have Hgrow7 := Lib.hid hgrow7; clear hown7 hgrow7 hat)
     go_roundw
     case rel =>
      refine ⟨k + 1, by omega, by go_num, ⟨g7, cap7, by rw [Hrl.out]⟩, Lib.hid ?_, Lib.hid (FTops.grown_below hb.out Hgrow7.out Hrow.out (Nat.le_refl _))⟩
      have h9 := Hown7.out
      rw [Hs2.out]
      rw [Hy.out]
      simpa only [List.length_append, List.length_cons, List.length_nil, Hrl.out, Nat.zero_add] using h9
     case measure => simp [intOf]; omega
   ·have Hy := Lib.hid (Hsame.out (by omega))
    clear Hsame Hadd
    go_wp2_with (at_builtin; go_loud (refine Mem.pl_append _ w.heap.size rfl _ _ 208 5 (.int .u8 0) 1 rfl Tryz.underlying208 info_u8 rfl (.slice (some ⟨gr, 0, none⟩) k cr) xs (.int .u8 (s[k].toNat : Int)) rfl (by simp [Act.eval]) rfl Hrow.out hb.out.size (by have := Hrl.out; omega) (by have := Hrl.out; simp only [maxLen]; omega) ?_); rintro v7 w17 hown7 hgrow7 ⟨g7, cap7, rfl, hat⟩; have Hown7 := Lib.hid hown7; have Hgrow7 := Lib.hid hgrow7; clear hown7 hgrow7 hat)
    go_roundw
    case rel =>
     refine ⟨k + 1, by omega, by go_num, ⟨g7, cap7, by rw [Hrl.out]⟩, Lib.hid ?_, Lib.hid (FTops.grown_below hb.out Hgrow7.out Hrow.out (Nat.le_refl _))⟩
     have h9 := Hown7.out
     rw [Hs2.out]
     rw [Hy.out]
     simpa only [List.length_append, List.length_cons, List.length_nil, Hrl.out, Nat.zero_add] using h9
    case measure => simp [intOf]; omega
  ·obtain rfl : k = s.size := by omega
   have hcv : (convert 208 9 (.slice (some ⟨gr, 0, none⟩) s.size cr)).run Tryz.prog wr = .ok (.string ⟨s.data.map foldB⟩) wr := by
    have hx := hrow.out
    have := run_convert_bytes_back (P := Tryz.prog) wr 208 9 5 ⟨gr, 0, none⟩ cr (s.data.map foldB).toList Tryz.underlying208 Tryz.underlying5 Tryz.underlying9 (fun j hj => by
     refine hx.cells (g := gr) rfl j _ ?_
     have hj' : j < s.data.size := by simpa using hj
     unfold foldR
     rw [List.take_of_length_le (by rw [Array.length_toList]; exact Nat.le_refl _), List.getElem?_map, List.getElem?_map, List.getElem?_eq_getElem (by rw [Array.length_toList]; exact hj')]
     simp)
    have e1 : (s.data.map foldB).toList.toArray = s.data.map foldB := Array.toArray_toList
    have e2 : (s.data.map foldB).toList.length = s.size := by simp
    rw [e1, e2] at this
    exact this
   clear hrow
   go_wp2_with fail
   go_ret
   exact ⟨rfl, hb.out⟩
theorem bget {s : ByteArray} {k : Nat} (h : k < s.size) : s.data.toList[k]'(by rw [Array.length_toList]; exact h) = s[k] := by simp; rfl
theorem blen (s : ByteArray) : s.data.toList.length = s.size := by rw [Array.length_toList]; rfl
abbrev bsB (l : List UInt8) : ByteArray := ⟨l.toArray⟩
theorem bs_inj {a b : List UInt8} (h : bsB a = bsB b) : a = b := by injection h with h; injection h
theorem bs_size (l : List UInt8) : (bsB l).size = l.length := by show l.toArray.size = _; simp
theorem inB_bs (w : List UInt8) (l : List (List UInt8)) : inB (bsB w) (l.map bsB) = decide (w ∈ l) := by
 by_cases h : w ∈ l
 ·rw [decide_eq_true h]
  exact inB_yes (List.mem_map.2 ⟨w, h, rfl⟩)
 ·rw [decide_eq_false h]
  refine inB_no (fun hx => ?_)
  obtain ⟨u, hu, he⟩ := List.mem_map.1 hx
  rw [bs_inj he] at hu
  exact h hu
theorem bs_one (s : ByteArray) (k : Nat) (h : k < s.size) (w : List UInt8) : bsB w ++ s.extract k (k + 1) = bsB (w ++ [s[k]]) := by
 apply ByteArray.ext
 rw [ByteArray.data_append, ByteArray.data_extract]
 have e : s.data.extract k (k + 1) = #[s[k]] := by
  apply Array.ext
  ·rw [Array.size_extract]; show min (k + 1) s.data.size - k = 1; have : k < s.data.size := h; omega
  ·intro i h1 h2
   have : i = 0 := by simp at h2; exact h2
   subst this
   simp
   rfl
 rw [e]
 simp
def wordR (l : List (List UInt8)) : List Value := l.map (fun u => .string (bsB u))
theorem wordR_len (l : List (List UInt8)) : (wordR l).length = l.length := by unfold wordR; simp
theorem str_nil (s : ByteArray) : (s.toList == []) = decide (s.size = 0) := by
 rw [Lib.toList_data, Bool.eq_iff_iff, beq_iff_eq, decide_eq_true_eq]
 constructor
 ·intro h
  have := congrArg List.length h
  simpa using this
 ·intro h
  apply List.eq_nil_of_length_eq_zero
  simpa using h
theorem info_str : (Tryz.prog.info? 9).map (fun i => (i.zero, i.size, i.bytes)) = some (some (.string ⟨#[]⟩), 1, 16) := by kernel_rfl
theorem rd_words {w : World} {base : Nat} {v : Value} {l : List (List UInt8)} (h : w.ownsRow base 9 1 v l.length (wordR l)) (hs : ∀ u ∈ l, u.length ≤ 1000) : RdL strE 1 w.heap.size w v (l.map bsB) := by
 refine RdL.of_own h (by simp) (fun g hg => (h.lt g hg).2) (fun i hi => ?_)
 rw [List.length_map] at hi
 refine ⟨?_, ?_⟩
 ·rw [Nat.mul_one, List.drop_eq_getElem_cons (by unfold wordR; simpa using hi)]
  unfold wordR
  simp
 ·rw [List.getElem_map, bs_size]
  exact Nat.le_trans (hs _ (List.getElem_mem hi)) (by decide)
set_option maxRecDepth 100000 in
set_option maxHeartbeats 4000000 in
theorem Tokens_calls (s : ByteArray) (hs : s.size ≤ 1000) (w : World) : Calls Tryz.prog 194 #[.string s] w fun e w' => ∃ v, e = .returned v ∧ RdL strE 1 w'.heap.size w' v ((once (words s.data.toList)).map bsB) ∧ Below w.heap.size w w' := by
 have hbc := fun b w => blank_calls b w
 have Hbc := Lib.hid hbc
 clear hbc
 go_enter Tryz.func194, Tryz.ntmps194
 go_wp2_with fail
 go_loopw [3, 4, 5] (fun u x i wr => ∃ (k : Nat) (out : List (List UInt8)) (t : List UInt8) (T : ByteArray), k ≤ s.size + 1 ∧ i = .int .i64 k ∧ x = .string T ∧ Hid (T = bsB t) ∧ Hid (k ≤ s.size → TokI s.data.toList k out t) ∧ Hid (k = s.size + 1 → out = once (words s.data.toList)) ∧ Hid (wr.ownsRow w.heap.size 9 1 u out.length (wordR out)) ∧ Hid (∀ u ∈ out, u.length ≤ 1000) ∧ Hid (Below w.heap.size w wr)) (fun _ _ i _ => s.size + 1 - (intOf i).toNat)
 case atStart => exact ⟨0, [], [], _, Nat.zero_le _, rfl, rfl, Lib.hid rfl, Lib.hid (fun _ => TokI.zero _), Lib.hid (fun h => by omega), Lib.hid (World.ownsRow_lit w #[] 0 (Nat.le_refl _) (by decide) rfl), Lib.hid (fun u hu => by cases hu), Lib.hid ((Below.refl _ _).alloc (Nat.le_refl _) _)⟩
 case round =>
  obtain ⟨k, out, t, T, hk, rfl, rfl, hT, hI, hF, hrow, hsm, hb⟩ := hrel
  obtain ⟨Ar, cr, rfl⟩ := LShown.slice_of hrow.out
  by_cases hlt : k < s.size
  ·have hb1 := fun w => Hbc.out s[k] w
   cases hbk : isBlank s[k] with
   | false =>
    simp only [hbk] at hb1
    have hx := (hI.out (by omega)).face (by rw [blen]; exact hlt) (by rw [bget hlt]; exact hbk)
    rw [bget hlt] at hx
    have hTs : T.size ≤ 1000 := by
     have := (hI.out (by omega)).len (by rw [blen]; omega)
     rw [hT.out, bs_size]
     omega
    have hsl : ∀ W : World, (Instr.slice 9 (.string s) (some (.int .i64 (k : Int))) (some (.int .i64 ((k : Int) + 1))) none).run Tryz.prog W = .ok (.string (s.extract k (k + 1))) W := fun W => by
     have := run_slice_string (P := Tryz.prog) W 9 s .i64 .i64 (k : Int) ((k : Int) + 1) Tryz.underlying9 (by omega) (by omega) (by omega)
     rw [this, Int.toNat_natCast, show ((k : Int) + 1).toNat = k + 1 by omega]
    have hcat : ∀ W : World, (Op.stringOp .add T (s.extract k (k + 1))).run Tryz.prog W = .ok (.string (T ++ s.extract k (k + 1))) W := fun W => run_string_add_sum W _ _ (by rw [ByteArray.size_extract]; omega)
    have hT2 : T ++ s.extract k (k + 1) = bsB (t ++ [s[k]]) := by rw [hT.out]; exact bs_one s k hlt t
    have Hb1 := Lib.hid hb1; have Hx := Lib.hid hx; have HT2 := Lib.hid hT2
    clear hb1 hbk hx hT2
    go_wp2_with (go_at_call 221; (with_reducible refine (Hb1.out _).mono ?_); rintro e w6 ⟨rfl, rfl⟩)
    go_roundw
    case rel => exact ⟨k + 1, out, t ++ [s[k]], _, by omega, by go_num, rfl, HT2, Lib.hid (fun _ => Hx.out), Lib.hid (fun h => by omega), hrow, hsm, hb⟩
    case measure => simp [intOf]; omega
   | true =>
    simp only [hbk] at hb1
    have hlen := (hI.out (by omega)).len (by rw [blen]; omega)
    have htl : t.length ≤ 1000 := by omega
    have hos : out.length ≤ 1000 := by omega
    have hTz : T.size = t.length := by rw [hT.out, bs_size]
    have hin := in_calls wr _ _ (rd_words hrow.out hsm.out) T
    rw [show inB T (out.map bsB) = decide (t ∈ out) by rw [hT.out]; exact inB_bs t out] at hin
    have Hrow : Hid (wr.ownsRow w.heap.size 9 1 (.slice Ar out.length cr) (wordR out).length (wordR out)) := Lib.hid (by rw [wordR_len]; exact hrow.out)
    have hx := (hI.out (by omega)).blank (by rw [blen]; exact hlt) (by rw [bget hlt]; exact hbk)
    have Hb1 := Lib.hid hb1
    clear hb1 hbk
    clear hlen
    by_cases ht0 : t = []
    ·have f1 : (T.toList == []) = true := by rw [str_nil]; exact decide_eq_true (by rw [hTz, ht0]; rfl)
     have f2 : (T.toList != []) = false := by rw [bne, f1]; rfl
     have hfl : flush out t = out := by unfold flush; rw [if_pos (.inl ht0)]
     rw [hfl] at hx
     have Hx := Lib.hid hx
     clear hx hfl ht0 hin hTz
     go_wp2_with (first | (go_at_call 221; (with_reducible refine (Hb1.out _).mono ?_); rintro e w6 ⟨rfl, rfl⟩))
     go_roundw
     case rel => exact ⟨k + 1, out, [], _, by omega, by go_num, rfl, Lib.hid rfl, Lib.hid (fun _ => Hx.out), Lib.hid (fun h => by omega), hrow, hsm, hb⟩
     case measure => simp [intOf]; omega
    ·have f1 : (T.toList == []) = false := by rw [str_nil]; exact decide_eq_false (fun e => ht0 (List.eq_nil_of_length_eq_zero (by omega)))
     have f2 : (T.toList != []) = true := by rw [bne, f1]; rfl
     by_cases hto : t ∈ out
     ·have hfl : flush out t = out := by unfold flush; rw [if_pos (.inr hto)]
      rw [hfl] at hx
      rw [decide_eq_true hto] at hin
      have Hx := Lib.hid hx; have Hin := Lib.hid hin
      clear hx hfl ht0 hin hTz hto
      go_wp2_with (first | (go_at_call 221; (with_reducible refine (Hb1.out _).mono ?_); rintro e w6 ⟨rfl, rfl⟩) | (go_at_call 193; (with_reducible refine (Hin.out).mono ?_); rintro e w6 ⟨rfl, rfl⟩))
      go_roundw
      case rel => exact ⟨k + 1, out, [], _, by omega, by go_num, rfl, Lib.hid rfl, Lib.hid (fun _ => Hx.out), Lib.hid (fun h => by omega), hrow, hsm, hb⟩
      case measure => simp [intOf]; omega
     ·have hfl : flush out t = out ++ [t] := by unfold flush; rw [if_neg (fun h => h.elim ht0 hto)]
      rw [hfl] at hx
      rw [decide_eq_false hto] at hin
      have hsm2 : ∀ u ∈ out ++ [t], u.length ≤ 1000 := fun u hu => by
       rw [List.mem_append, List.mem_singleton] at hu
       rcases hu with hu | rfl
       ·exact hsm.out u hu
       ·exact htl
      have Hx := Lib.hid hx; have Hin := Lib.hid hin; have Hsm2 := Lib.hid hsm2
      clear hx hfl ht0 hin hTz hto hsm2
      go_wp2_with (first | (go_at_call 221; (with_reducible refine (Hb1.out _).mono ?_); rintro e w6 ⟨rfl, rfl⟩) | (go_at_call 193; (with_reducible refine (Hin.out).mono ?_); rintro e w6 ⟨rfl, rfl⟩) | (at_builtin; go_loud (refine Mem.pl_append _ w.heap.size rfl _ _ 258 9 (.string ⟨#[]⟩) 16 rfl Tryz.underlying258 info_str rfl (.slice Ar out.length cr) (wordR out) (.string T) rfl (by simp [Act.eval]) rfl Hrow.out hb.out.size (by rw [wordR_len]; omega) (by rw [wordR_len]; simp only [maxLen]; omega) ?_); rintro v7 w17 hown7 hgrow7 ⟨g7, cap7, rfl, hat⟩; have Hown7 := Lib.hid hown7; have Hgrow7 := Lib.hid hgrow7; clear hown7 hgrow7 hat))
      go_roundw
      case rel =>
       refine ⟨k + 1, out ++ [t], [], _, by omega, by go_num, rfl, Lib.hid rfl, Lib.hid (fun _ => Hx.out), Lib.hid (fun h => by omega), Lib.hid ?_, Hsm2, Lib.hid (FTops.grown_below hb.out Hgrow7.out Hrow.out (Nat.le_refl _))⟩
       have h9 := Hown7.out
       have e : wordR (out ++ [t]) = wordR out ++ [.string T] := by unfold wordR; rw [List.map_append, hT.out]; rfl
       rw [e]
       simpa only [List.length_append, List.length_cons, List.length_nil, wordR_len, Nat.zero_add] using h9
      case measure => simp [intOf]; omega
  ·by_cases hks : k = s.size
   ·subst hks
    have hlen := (hI.out (by omega)).len (by rw [blen]; omega)
    have htl : t.length ≤ 1000 := by omega
    have hos : out.length ≤ 1000 := by omega
    have hTz : T.size = t.length := by rw [hT.out, bs_size]
    have hin := in_calls wr _ _ (rd_words hrow.out hsm.out) T
    rw [show inB T (out.map bsB) = decide (t ∈ out) by rw [hT.out]; exact inB_bs t out] at hin
    have Hrow : Hid (wr.ownsRow w.heap.size 9 1 (.slice Ar out.length cr) (wordR out).length (wordR out)) := Lib.hid (by rw [wordR_len]; exact hrow.out)
    have hx := (show TokI s.data.toList s.data.toList.length out t by rw [blen]; exact hI.out (by omega)).fin
    clear hlen
    by_cases ht0 : t = []
    ·have f1 : (T.toList == []) = true := by rw [str_nil]; exact decide_eq_true (by rw [hTz, ht0]; rfl)
     have f2 : (T.toList != []) = false := by rw [bne, f1]; rfl
     have hfl : flush out t = out := by unfold flush; rw [if_pos (.inl ht0)]
     rw [hfl] at hx
     have Hx := Lib.hid hx
     clear hx hfl ht0 hin hTz
     go_wp2_with fail
     go_roundw
     case rel => exact ⟨s.size + 1, out, [], _, by omega, by go_num, rfl, Lib.hid rfl, Lib.hid (fun h => by omega), Lib.hid (fun _ => Hx.out), hrow, hsm, hb⟩
     case measure => simp [intOf]
    ·have f1 : (T.toList == []) = false := by rw [str_nil]; exact decide_eq_false (fun e => ht0 (List.eq_nil_of_length_eq_zero (by omega)))
     have f2 : (T.toList != []) = true := by rw [bne, f1]; rfl
     by_cases hto : t ∈ out
     ·have hfl : flush out t = out := by unfold flush; rw [if_pos (.inr hto)]
      rw [hfl] at hx
      rw [decide_eq_true hto] at hin
      have Hx := Lib.hid hx; have Hin := Lib.hid hin
      clear hx hfl ht0 hin hTz hto
      go_wp2_with (first | (go_at_call 193; (with_reducible refine (Hin.out).mono ?_); rintro e w6 ⟨rfl, rfl⟩))
      go_roundw
      case rel => exact ⟨s.size + 1, out, [], _, by omega, by go_num, rfl, Lib.hid rfl, Lib.hid (fun h => by omega), Lib.hid (fun _ => Hx.out), hrow, hsm, hb⟩
      case measure => simp [intOf]
     ·have hfl : flush out t = out ++ [t] := by unfold flush; rw [if_neg (fun h => h.elim ht0 hto)]
      rw [hfl] at hx
      rw [decide_eq_false hto] at hin
      have hsm2 : ∀ u ∈ out ++ [t], u.length ≤ 1000 := fun u hu => by
       rw [List.mem_append, List.mem_singleton] at hu
       rcases hu with hu | rfl
       ·exact hsm.out u hu
       ·exact htl
      have Hx := Lib.hid hx; have Hin := Lib.hid hin; have Hsm2 := Lib.hid hsm2
      clear hx hfl ht0 hin hTz hto hsm2
      go_wp2_with (first | (go_at_call 193; (with_reducible refine (Hin.out).mono ?_); rintro e w6 ⟨rfl, rfl⟩) | (at_builtin; go_loud (refine Mem.pl_append _ w.heap.size rfl _ _ 258 9 (.string ⟨#[]⟩) 16 rfl Tryz.underlying258 info_str rfl (.slice Ar out.length cr) (wordR out) (.string T) rfl (by simp [Act.eval]) rfl Hrow.out hb.out.size (by rw [wordR_len]; omega) (by rw [wordR_len]; simp only [maxLen]; omega) ?_); rintro v7 w17 hown7 hgrow7 ⟨g7, cap7, rfl, hat⟩; have Hown7 := Lib.hid hown7; have Hgrow7 := Lib.hid hgrow7; clear hown7 hgrow7 hat))
      go_roundw
      case rel =>
       refine ⟨s.size + 1, out ++ [t], [], _, by omega, by go_num, rfl, Lib.hid rfl, Lib.hid (fun h => by omega), Lib.hid (fun _ => Hx.out), Lib.hid ?_, Hsm2, Lib.hid (FTops.grown_below hb.out Hgrow7.out Hrow.out (Nat.le_refl _))⟩
       have h9 := Hown7.out
       have e : wordR (out ++ [t]) = wordR out ++ [.string T] := by unfold wordR; rw [List.map_append, hT.out]; rfl
       rw [e]
       simpa only [List.length_append, List.length_cons, List.length_nil, wordR_len, Nat.zero_add] using h9
      case measure => simp [intOf]
   ·obtain rfl : k = s.size + 1 := by omega
    have hfin := hF.out rfl
    have hrd := rd_words hrow.out hsm.out
    rw [hfin] at hrd hrow
    have Hrd := Lib.hid hrd
    subst hfin
    clear hrd hI hF
    go_wp2_with fail
    go_ret
    exact ⟨_, rfl, Hrd.out, hb.out⟩
theorem Has_calls (s tok : ByteArray) (hs : s.size ≤ 1000) (w : World) : Calls Tryz.prog 129 #[.string s, .string tok] w fun e w' => e = .returned (.bool ((words s.data.toList).contains tok.data.toList)) ∧ Below w.heap.size w w' := by
 have htk := Tokens_calls s hs w
 have hin := fun w' v (h : RdL strE 1 w'.heap.size w' v ((once (words s.data.toList)).map bsB)) => in_calls w' v _ h tok
 have hb : inB tok ((once (words s.data.toList)).map bsB) = (words s.data.toList).contains tok.data.toList := by
  have e : tok = bsB tok.data.toList := by show tok = ⟨tok.data.toList.toArray⟩; rw [Array.toArray_toList]
  rw [e, inB_bs, Bool.eq_iff_iff, decide_eq_true_eq, mem_once, List.contains_iff_mem]
 simp only [hb] at hin
 obtain ⟨L, hL⟩ : ∃ L, L = (once (words s.data.toList)).map bsB := ⟨_, rfl⟩
 rw [← hL] at htk
 simp only [← hL] at hin
 clear hL hb
 generalize (words s.data.toList).contains tok.data.toList = B at *
 have Htk := Lib.hid htk; have Hin := Lib.hid hin
 clear htk hin
 go_enter Tryz.func129, Tryz.ntmps129
 go_wp2_with (first | (go_at_call 194; (with_reducible refine (Htk.out).mono ?_); rintro e w6 ⟨v6, rfl, hr6, hb6⟩; obtain ⟨A6, c6, rfl, _, _, _⟩ := id hr6; have Hr6 := Lib.hid hr6; have Hb6 := Lib.hid hb6; clear hr6 hb6) | (go_at_call 193; (with_reducible refine (Hin.out _ _ Hr6.out).mono ?_); rintro e w7 ⟨rfl, rfl⟩))
 go_ret
 exact ⟨rfl, Hb6.out⟩
end Go.Proofs.YtmbhkkophkccbaaGreat.R2
end
section
namespace Go.Proofs.YtmbhkkophkccbaaGreat.ItsA
open Go Go.RowKit Go.Proofs.YtmbhkkophkccbaaGreat.Seq WS FS Mem Rd Shapes Word FFam OwnF Its
set_option linter.unusedVariables false
set_option linter.unusedSimpArgs false

set_option maxRecDepth 100000 in
set_option maxHeartbeats 8000000 in
theorem its_calls (w : World) (v : Value) (f : Fo) (h : RdF w.heap.size w v f) (hl70 : f.length ≤ 1000) (ha12 : ∀ n ∈ f, n.attrs.length ≤ 1000) :
  Calls Tryz.prog 16 #[v] w fun e w' => ∃ u, e = .returned u ∧ OwnF 58 w.heap.size w' u f ∧ Below w.heap.size w w' := by
 obtain ⟨A0, c0, rfl, hl0, hc0, h'⟩ := h.form
 simp only [maxLen] at hc0
 obtain ⟨i0, hi0, hz0, hz1, hz2⟩ := info_parts info_rnode
 obtain ⟨i1, hi1, hy0, hy1, hy2⟩ := info_parts info_rattr
 have Hh := Lib.hid h'; have Ha := Lib.hid ha12
 clear h h' ha12
 go_enter Tryz.func16, Tryz.ntmps16
 go_wp2_with fail
 have hown0 : (w.alloc (.cells #[] 58)).ownsRow w.heap.size 58 6 (.slice (some ⟨w.heap.size, 0, none⟩) 0 0) 0 [] := World.ownsRow_made w #[] 0 (Nat.le_refl _) (by simp [maxLen]) (by simp)
 have hO0 : OwnF 58 w.heap.size (w.alloc (.cells #[] 58)) (.slice (some ⟨w.heap.size, 0, none⟩) 0 0) (f.take 0) := ⟨[], hown0, fun i hi => absurd hi (by simp)⟩
 have HO0 := Lib.hid hO0
 clear hown0 hO0
 go_loopw [3, 4] (fun u i wr => ∃ k : Nat, k ≤ f.length ∧ i = .int .i64 k ∧ Hid (OwnF 58 w.heap.size wr u (f.take k)) ∧ Below w.heap.size w wr) (fun _ i _ => f.length - (intOf i).toNat)
 case atStart => exact ⟨0, Nat.zero_le _, rfl, HO0, (Below.refl _ _).alloc (Nat.le_refl _) _⟩
 case round =>
  obtain ⟨k, hk, rfl, hO, hb⟩ := hrel
  obtain ⟨xsO, hrowO, hndO⟩ := hO.out
  obtain ⟨AO, nO, cO, rfl⟩ := Build.own_form hrowO
  have HrowO := Lib.hid hrowO; have HndO := Lib.hid hndO
  clear hrowO hndO
  by_cases hlt : k < f.length
  ·obtain ⟨b, o, Aa, ca, Ak, ck, rfl, hbl, g0, g1, g2, g3, g4, g5, ra, rk, la, lca, lk, lck, m1, m2, m3, m4⟩ := node_at Hh.out hlt
   have han := Ha.out f[k] (List.getElem_mem _)
   have htk : f.take (k + 1) = f.take k ++ [f[k]] := List.take_succ_eq_append_getElem hlt
   generalize f[k] = n at *
   obtain ⟨kd, nm, tx, ats, par, kks⟩ := n
   simp only at *
   simp only [maxLen] at lca lck m1 m2
   have hkeep := fun w' (hb' : Below w.heap.size w w') => (⟨cell_below hb' g0 hbl, cell_below hb' g1 hbl, cell_below hb' g2 hbl, cell_below hb' g3 hbl, cell_below hb' g4 hbl, cell_below hb' g5 hbl⟩ : _ ∧ _ ∧ _ ∧ _ ∧ _ ∧ _)
   obtain ⟨p0, p1, p2, p3, p4, p5⟩ := hkeep wr hb
   have hbwr : b < wr.heap.size := Nat.lt_of_lt_of_le hbl hb.size
   have Hkeep := Lib.hid hkeep; have Hra := Lib.hid ra; have Hrk := Lib.hid rk; have Htk := Lib.hid htk; have Hb := Lib.hid hb; have Hm3 := Lib.hid m3; have Hm4 := Lib.hid m4
   obtain ⟨wo, rfl⟩ : ∃ wo : World, wo = wr := ⟨_, rfl⟩
   have Hsm := Lib.hid (show nm.size ≤ maxLen ∧ tx.size ≤ maxLen ∧ (Lit.int .i64 kd).wf = true ∧ (Lit.int .i64 par).wf = true from ⟨by simp only [maxLen]; omega, by simp only [maxLen]; omega, m3, m4⟩)
   have Ha2 := Lib.hid (attrs_small ra)
   clear g0 g1 g2 g3 g4 g5 hkeep ra rk htk hb m3 m4
   go_wp2_with fail
   go_region_held3 (fun w' => w'.cell? ⟨b, o + k * 6, none⟩ = some (.int .i64 kd) ∧ w'.cell? ⟨b, o + k * 6 + 1, none⟩ = some (.string nm) ∧ w'.cell? ⟨b, o + k * 6 + 2, none⟩ = some (.string tx) ∧ w'.cell? ⟨b, o + k * 6 + 4, none⟩ = some (.int .i64 par) ∧ w'.cell? ⟨b, o + k * 6 + 5, none⟩ = some (.slice Ak kks.length ck))
    (first | exact ⟨p0, p1, p2, p4, p5⟩ | go_keep)
    ((fail))
   go_wp2_with fail
   obtain ⟨gn, hgn⟩ : ∃ gn, gn = wo.heap.size := ⟨_, rfl⟩
   have hG0 : NBox gn kd nm tx par (.slice Ak kks.length ck) (ats.take 0) (.slice none 0 0) wo ((wo.alloc (.cells #[.int .i64 kd, .string nm, .string tx, .slice none 0 0, .int .i64 par, .slice Ak kks.length ck] 58)).drew) :=
    ⟨heap_new hgn, World.ownsRow_nil _ _ _ _, ((Below.refl _ wo).alloc (Nat.le_refl _) _).drew⟩
   rw [← hgn]
   have HG0 := Lib.hid hG0
   have Hgn := Lib.hid hgn
   clear hG0 p0 p1 p2 p3 p4 p5 hgn
   go_loopw [6] (fun i wi => ∃ (j : Nat) (va : Value), j ≤ ats.length ∧ i = .int .i64 j ∧ Hid (NBox gn kd nm tx par (.slice Ak kks.length ck) (ats.take j) va wo wi)) (fun i _ => ats.length - (intOf i).toNat)
   case atStart => exact ⟨0, _, Nat.zero_le _, rfl, HG0⟩
   case round =>
    obtain ⟨j, va, hj, rfl, hN⟩ := hrel
    have hbw : Below w.heap.size w wr := bthen Hb.out hN.out.2.2
    obtain ⟨p0, p1, p2, p3, p4, p5⟩ := Hkeep.out wr hbw
    by_cases hjl : j < ats.length
    ·obtain ⟨hbx, hrow, hbel⟩ := hN.out
     obtain ⟨A3, n3, c3, rfl⟩ := Build.own_form hrow
     have k3 : wr.cell? ⟨gn, 3, none⟩ = some (.slice A3 n3 c3) := (cell_of_row _ _ _ _ _ _ hbx).trans rfl
     have k3f := free_of hbx 3
     have hgl := lt_heap hbx
     have hr2 := (Hra.out.below attrE_keeps (w' := wr) hbw (Nat.le_refl _))
     obtain ⟨ba, oa, rfl, hba, q0, q1, mm1, mm2⟩ := FAttr.attr_at hr2 hjl
     have htj : ats.take (j + 1) = ats.take j ++ [ats[j]] := List.take_succ_eq_append_getElem hjl
     generalize ats[j] = a at *
     obtain ⟨an, av⟩ := a
     simp only at *
     have hrow' : wr.ownsRow (gn + 1) 111 2 (.slice A3 n3 c3) j (atCells (ats.take j)) := by rw [List.length_take, Nat.min_eq_left (by omega)] at hrow; exact hrow
     have hne3 : (Value.slice A3 n3 c3).ownBlock ≠ some gn := fun e => by have := (hrow.lt gn e).1; omega
     have hbl2 : ba < wr.heap.size := World.block_lt_of_cell? wr _ q0
     have hjn : (j : Int) < ats.length := by omega
     have hkn : (k : Int) < f.length := by omega
     have Hrow := Lib.hid hrow'; have Hbx := Lib.hid hbx; have Hbel := Lib.hid hbel; have Htj := Lib.hid htj; have Hne3 := Lib.hid hne3; have Hgl := Lib.hid hgl
     clear hrow hrow' hbx hbel htj hr2 hne3 hbw
     go_wp2_with fail
     go_region_law (refine step_append_lies _ rfl (.tmp 51) (.tmp 60) 56 rfl (gn + 1) 111 i1 _ 2 32 Tryz.underlying56 hi1 hy0 hy1 hy2 rfl (by decide) (.slice A3 n3 c3) j (atCells (ats.take j)) (by simp [Act.eval, Act.put]) ((Hrow.out.alloc _).drew) ⟨wr.heap.size, 0, none⟩ 1 1 [.string an, .string av] (by simp [Act.eval, Act.put]) rfl (World.news_of_block (cs := #[.string an, .string av]) (t := 111) (fr := (0, 0)) (heap_alloc_new wr _)) (by simp [Value.oneCell']) (by omega) (by simp only [maxLen]; omega) (by omega) (by simp; omega) (wr.heap.size + 1) (by simp) ?_; intro g7 cap7 w7 hown7 hgrow7 hat7 hlt7; have e7 := (hgrow7.block gn (Nat.lt_of_lt_of_le Hgl.out (by simp)) (fun e => Hne3.out e.symm)).trans (heap_old Hbx.out); have k7 : w7.cell? ⟨gn, 3, none⟩ = some (.slice A3 n3 c3) := (cell_of_row _ _ _ _ _ _ e7).trans rfl; have k7f := free_of e7 3; have E7 := Lib.hid e7; have Hown7 := Lib.hid hown7; have Hgrow7 := Lib.hid hgrow7; have Hat7 := Lib.hid hat7; clear e7 hown7 hgrow7 hat7)
     all_goals go_wp2_with fail
     all_goals
      go_roundw
      case rel =>
       refine ⟨j + 1, .slice (some ⟨g7, 0, none⟩) (j + 1) cap7, by omega, by go_num, Lib.hid ?_⟩
       rw [Htj.out]
       refine nbox_step Hgn.out hN.out rfl ?_ Hgrow7.out Hat7.out
       rw [atCells_snoc, List.length_append, List.length_take, Nat.min_eq_left (by omega)]
       exact Hown7.out
      case measure => simp [intOf]; omega
    ·obtain rfl : j = ats.length := by omega
     rw [List.take_length] at hN
     obtain ⟨hbx, hrow, hbel⟩ := hN.out
     obtain ⟨A3, n3, c3, rfl⟩ := Build.own_form hrow
     have k0 : wr.cell? ⟨gn, 0, none⟩ = some (.int .i64 kd) := (cell_of_row _ _ _ _ _ _ hbx).trans rfl
     have k1 : wr.cell? ⟨gn, 1, none⟩ = some (.string nm) := (cell_of_row _ _ _ _ _ _ hbx).trans rfl
     have k2 : wr.cell? ⟨gn, 2, none⟩ = some (.string tx) := (cell_of_row _ _ _ _ _ _ hbx).trans rfl
     have k3 : wr.cell? ⟨gn, 3, none⟩ = some (.slice A3 n3 c3) := (cell_of_row _ _ _ _ _ _ hbx).trans rfl
     have k4 : wr.cell? ⟨gn, 4, none⟩ = some (.int .i64 par) := (cell_of_row _ _ _ _ _ _ hbx).trans rfl
     have k5 : wr.cell? ⟨gn, 5, none⟩ = some (.slice Ak kks.length ck) := (cell_of_row _ _ _ _ _ _ hbx).trans rfl
     have hkl : (f.take k).length = k := by rw [List.length_take]; omega
     have hrO : wr.ownsRow w.heap.size 58 6 (.slice AO nO cO) k xsO := by
      have := own_keep HrowO.out (w' := wr) (fun g hg => hbel.block g (HrowO.out.lt g hg).2)
      rwa [hkl] at this
     have hrO2 := own_keep hrO (w' := wr.alloc (.cells #[.int .i64 kd, .string nm, .string tx, .slice A3 n3 c3, .int .i64 par, .slice Ak kks.length ck] 58)) (fun g hg => Below.heap_alloc _ _ _ (hrO.lt g hg).2)
     have HrO2 := Lib.hid hrO2; have HN := Lib.hid hN.out
     have hsz : w.heap.size ≤ wr.heap.size := hbw.size
     clear hbx hrow hbel hrO hrO2 hN
     go_wp2_with (at_builtin; go_loud (refine wpList_append_own_at (wr.alloc (.cells #[.int .i64 kd, .string nm, .string tx, .slice A3 n3 c3, .int .i64 par, .slice Ak kks.length ck] 58)) rfl _ _ 32 rfl w.heap.size 58 i0 _ 6 96 Tryz.underlying32 hi0 hz0 hz1 hz2 rfl (by decide) (.slice AO nO cO) k xsO rfl HrO2.out ⟨wr.heap.size, 0, none⟩ 1 1 [.int .i64 kd, .string nm, .string tx, .slice A3 n3 c3, .int .i64 par, .slice Ak kks.length ck] rfl rfl (World.news_of_block (cs := #[.int .i64 kd, .string nm, .string tx, .slice A3 n3 c3, .int .i64 par, .slice Ak kks.length ck]) (t := 58) (fr := (0, 0)) (heap_alloc_new wr _)) (by simp [Value.oneCell']) (by simp only [maxLen]; omega) (by omega) (by simp; omega) ?_; intro v8 w8 hown8 hgrow8 hnil8 hat8; have Hown8 := Lib.hid hown8; have Hgrow8 := Lib.hid hgrow8; have Hat8 := Lib.hid hat8; clear hown8 hgrow8 hnil8 hat8))
     go_roundw
     case rel =>
      refine ⟨k + 1, by omega, by go_num, Lib.hid ?_, ?_⟩
      ·rw [Htk.out]
       exact out_step hkl HndO.out HrowO.out HN.out Hgn.out (Hrk.out.keep (intE_keeps _) (bthen Hb.out HN.out.2.2) (Nat.le_refl _)) HrO2.out Hown8.out Hgrow8.out Hat8.out (Ha2.out) Hsm.out hsz
      ·exact ((bthen Hb.out HN.out.2.2).alloc hsz _).trans ((Off.grown (Y := fun b => w.heap.size ≤ b) Hgrow8.out (fun r hr => (HrowO.out.lt r hr).1)).toBelow (by simp; omega) (fun b hb => hb))
     case measure => simp [intOf]; omega
  ·obtain rfl : k = f.length := by omega
   have hfin := hO.out
   rw [List.take_length] at hfin
   have Hfin := Lib.hid hfin; have Hb := Lib.hid hb
   clear hfin hb hlt
   go_wp2_with fail
   go_ret
   exact ⟨_, rfl, Hfin.out, Hb.out⟩
end Go.Proofs.YtmbhkkophkccbaaGreat.ItsA
end
