import Derived.Maps.AppendAt
import Derived.Deep.RegionHeld3
import Derived.Test.YtmbhkkophkccbaaGreatC21
import Derived.Test.YtmbhkkophkccbaaGreatC09
import Derived.Test.YtmbhkkophkccbaaGreatC24
import Derived.Test.YtmbhkkophkccbaaGreatC22
section
namespace Go.Proofs.YtmbhkkophkccbaaGreat.R8
open Go Go.RowKit Go.Proofs.YtmbhkkophkccbaaGreat.Seq WS FS Mem Rd Shapes Word FFam Wk
set_option linter.unusedVariables false
set_option linter.unusedSimpArgs false
theorem node_calls (w : World) (A : Option Addr) (c : Nat) (f : Fo) (i : Int) : Calls Tryz.prog 113 #[.slice A f.length c, .int .i64 i] w fun e w' => e = .returned (.bool (isNode f i)) ∧ w = w' := by
 cases hn : isNode f i with
 | true =>
  obtain ⟨k, rfl, hk⟩ := node_nat hn
  have h1 : (k : Int) < (f.length : Int) := by omega
  have h0 : ((k : Int) ≥ 0) := by omega
  clear hn
  go_enter Tryz.func113, Tryz.ntmps113
  go_wp2_with fail
  go_ret
  exact ⟨by simp; try omega, rfl⟩
 | false =>
  rcases node_no hn with h | ⟨h0, h⟩
  ·have h1 : ¬ (0 ≤ i) := by omega
   clear hn
   go_enter Tryz.func113, Tryz.ntmps113
   go_wp2_with fail
   go_ret
   exact ⟨by simp; try omega, rfl⟩
  ·have h1 : ¬ (i < (f.length : Int)) := by omega
   clear hn
   go_enter Tryz.func113, Tryz.ntmps113
   go_wp2_with fail
   go_ret
   exact ⟨by simp; try omega, rfl⟩
set_option maxRecDepth 100000 in
theorem pl_cat {ops : Array Oper} {rest : List Oper} {o : Oper} {a : Act} {Q : Exit → Act → World → Prop} (W : World) (hgd : o.guard = none) (s x : Operand)
  (ho : o.op = .call { callee := .builtin .append, args := #[s, x], argTypes := #[34, 34] }) (B : Nat) (v : Value) (M : List Int) (hs : a.eval s = v) (hown : W.ownsRow B 3 1 v M.length (M.map (Value.int .i64)))
  (A : Option Addr) (c : Nat) (L : List Int) (hx : a.eval x = .slice A L.length c) (hr : RdL (intE .i64) 1 W.heap.size W (.slice A L.length c) L) (h0 : 0 < L.length) (hlen : M.length + L.length ≤ 1000) (hB : B ≤ W.heap.size)
  (h : ∀ v' w1, w1.ownsRow B 3 1 v' (M ++ L).length ((M ++ L).map (Value.int .i64)) → Below B W w1 → wpList Tryz.prog ops Q rest (a.put o.dst v') w1) :
  wpList Tryz.prog ops Q (o :: rest) a W := by
 obtain ⟨i0, hi, hz0, hz1, hz2⟩ := info_parts info_int
 obtain ⟨b, off, rfl, _, _, _⟩ := intE_at hr h0
 have hcell : ∀ j (hj : j < L.length), W.cell? ⟨b, off + j, none⟩ = some (.int .i64 L[j]) := fun j hj => by
  obtain ⟨b', o', he, _, q, _⟩ := intE_at hr hj
  injection he with he
  injection he with he he' _
  subst he he'
  exact q
 refine wpList_append_own_at (w := W) hgd s x 34 ho B 3 i0 _ 1 8 Tryz.underlying34 hi hz0 hz1 hz2 rfl (by decide) v M.length (M.map (Value.int .i64)) hs hown ⟨b, off, none⟩ L.length c (L.map (Value.int .i64)) hx (by simp) (fun j u hj => ?_) (fun u hu => ?_) (by simp only [maxLen]; omega) (by omega) hB ?_
 ·rw [Addr.add_lit]
  rw [List.getElem?_map] at hj
  obtain ⟨y, hy, rfl⟩ := Option.map_eq_some_iff.1 hj
  obtain ⟨hjl, rfl⟩ := List.getElem?_eq_some_iff.1 hy
  exact hcell j hjl
 ·obtain ⟨y, _, rfl⟩ := List.mem_map.1 hu
  rfl
 ·intro v' w' ho' hg' hnil hat
  refine h v' w' (by rw [List.length_append, List.map_append]; exact ho') ((Off.grown (Y := fun b => B ≤ b) hg' (fun r hr => (hown.lt r hr).1)).toBelow hB (fun b hb => hb))
set_option maxRecDepth 100000 in
set_option maxHeartbeats 4000000 in
theorem order_calls (f : Fo) (hm : mayB f = true) (i : Int) (hi : isNode f i = true) : ∀ (w : World) (v : Value), RdF w.heap.size w v f → Calls Tryz.prog 114 #[v, .int .i64 i] w fun e w' => ∃ u, e = .returned u ∧ RdL (intE .i64) 1 w'.heap.size w' u (order f i) ∧ Below w.heap.size w w' := by
 refine down_ind (may_is hm).fam (may_is hm).climb (P := fun i => isNode f i = true → ∀ (w : World) (v : Value), RdF w.heap.size w v f → Calls Tryz.prog 114 #[v, .int .i64 i] w fun e w' => ∃ u, e = .returned u ∧ RdL (intE .i64) 1 w'.heap.size w' u (order f i) ∧ Below w.heap.size w w') (fun i _ ih hi w v h => ?_) hi hi
 obtain ⟨A0, c0, rfl, hl0, hc0, h'⟩ := h.form
 simp only [maxLen] at hc0
 obtain ⟨k, rfl, hlt⟩ := node_nat hi
 have hr := fun w' (hb : Below w.heap.size w w') => (h'.below nodeE_keeps (w' := w') hb (Nat.le_refl _)).mono nodeE_keeps hb.size
 have hlt' : (k : Int) < (f.length : Int) := by omega
 have hd0 : decide ((k : Int) < 0) = false := by simp
 have hoe := order_eq (may_is hm).fam (may_is hm).climb hi
 have hol := order_len (may_is hm).fam (may_is hm).climb hi
 have hl60 := (may_is hm).len
 have hkl := kids_len hm hi
 obtain ⟨b, o, Aa, ca, Ak, ck, rfl, hbl, g0, g1, g2, g3, g4, g5, ra, rk, la, lca, lk, lck, m1, m2, m3, m4⟩ := node_at h' hlt
 rw [← at_nat hlt] at g5 rk lk
 simp only [maxLen] at lck
 obtain ⟨K, hK⟩ : ∃ K, K = (at_ f (k : Int)).kids := ⟨_, rfl⟩
 rw [← hK] at g5 rk lk hkl hoe
 have hkid : ∀ x ∈ K, isNode f x = true := fun x hx => ((may_is hm).kids k hlt x (by rw [← hK]; exact hx)).1
 have ih2 : ∀ x ∈ K, ∀ (w : World) (v : Value), RdF w.heap.size w v f → Calls Tryz.prog 114 #[v, .int .i64 x] w fun e w' => ∃ u, e = .returned u ∧ RdL (intE .i64) 1 w'.heap.size w' u (order f x) ∧ Below w.heap.size w w' := fun x hx => ih x (by rw [← hK]; exact hx) (hkid x hx)
 obtain ⟨w9, hw9⟩ : ∃ w9, w.alloc (.cells #[.int .i64 (k : Int)] 3) = w9 := ⟨_, rfl⟩
 have hown9 : w9.ownsRow w.heap.size 3 1 (.slice (some ⟨w.heap.size, 0, none⟩) 1 1) 1 [.int .i64 (k : Int)] := by rw [← hw9]; exact World.ownsRow_lit (base := w.heap.size) (e := 3) (size := 1) w #[.int .i64 (k : Int)] 1 (Nat.le_refl _) (by simp [maxLen]) rfl
 have hb9 : Below w.heap.size w w9 := by rw [← hw9]; exact (Below.refl _ _).alloc (Nat.le_refl _) _
 have hg5 := fun w' (hb : Below w.heap.size w w') => cell_grow hb g5
 have hwfo := order_wf hm hi
 have Hw9 := Lib.hid hw9; have Hown9 := Lib.hid hown9; have Hb9 := Lib.hid hb9; have HR := Lib.hid hr; have Hoe := Lib.hid hoe; have Hkid := Lib.hid hkid; have Ih := Lib.hid ih2; have Hrk := Lib.hid rk; have Hg5 := Lib.hid hg5; have Hwf := Lib.hid hwfo
 clear hw9 hown9 hb9 hr hoe hkid ih ih2 rk hg5 g5 hwfo h h' hK ra la lca m1 m2 m3 m4 g0 g1 g2 g3 g4
 go_enter Tryz.func114, Tryz.ntmps114
 go_upto_region 2 with fail
 rw [Hw9.out]
 go_wp2_with fail
 go_loopw [5, 6] (fun want i wx => ∃ j : Nat, j ≤ K.length ∧ i = .int .i64 j ∧ Hid (wx.ownsRow w.heap.size 3 1 want ((k : Int) :: (K.take j).flatMap (order f)).length (((k : Int) :: (K.take j).flatMap (order f)).map (Value.int .i64))) ∧ Hid (Below w.heap.size w wx)) (fun _ i _ => K.length - (intOf i).toNat)
 case atStart => exact ⟨0, Nat.zero_le _, rfl, Hown9, Hb9⟩
 case round =>
  obtain ⟨j, hj, rfl, Hown, Hbx⟩ := hrel
  have p5 := Hg5.out wr Hbx.out
  by_cases hjl : j < K.length
  ·have hjl' : (j : Int) < (K.length : Int) := by omega
   have hj0 : decide ((j : Int) < 0) = false := by simp
   have hrk := Hrk.out.below (intE_keeps _) Hbx.out (Nat.le_refl _)
   obtain ⟨b8, o8, rfl, _, g1, _⟩ := intE_at hrk hjl
   have hoj := Ih.out K[j] (List.getElem_mem hjl) wr _ (HR.out wr Hbx.out)
   have hob := order_eq (may_is hm).fam (may_is hm).climb (Hkid.out _ (List.getElem_mem hjl))
   have htk : (k : Int) :: (K.take (j + 1)).flatMap (order f) = ((k : Int) :: (K.take j).flatMap (order f)) ++ order f K[j] := by
    rw [List.take_succ_eq_append_getElem hjl, List.flatMap_append]; simp
   have hpre : ((k : Int) :: (K.take (j + 1)).flatMap (order f)).length ≤ 60 := by
    have e : (order f (k : Int)).length = ((k : Int) :: K.flatMap (order f)).length := by rw [Hoe.out]
    have e2 : K.flatMap (order f) = (K.take (j + 1)).flatMap (order f) ++ (K.drop (j + 1)).flatMap (order f) := by rw [← List.flatMap_append, List.take_append_drop]
    rw [e2] at e
    simp only [List.length_cons, List.length_append] at e ⊢
    omega
   obtain ⟨M, hM⟩ : ∃ M, M = (k : Int) :: (K.take j).flatMap (order f) := ⟨_, rfl⟩
   rw [htk, ← hM, List.length_append] at hpre
   rw [← hM] at htk Hown
   have h0N : 0 < (order f K[j]).length := by rw [hob]; simp
   have Hoj := Lib.hid hoj; have Htk := Lib.hid htk
   clear hoj htk hrk hob hM
   obtain ⟨N, hN⟩ : ∃ N, N = order f K[j] := ⟨_, rfl⟩
   rw [← hN] at Hoj Htk h0N hpre
   clear hN
   generalize K[j] = y at *
   have hwb : w.heap.size ≤ wr.heap.size := Hbx.out.size
   obtain ⟨Aw, cw, rfl⟩ := LShown.slice_of Hown.out
   go_wp2_with (first
    | (go_at_call 114; (with_reducible refine (Hoj.out).mono ?_); rintro e w10 ⟨v10, rfl, hr10, hb10⟩; obtain ⟨A10, c10, rfl, hl10, hc10, hr10'⟩ := hr10.form; simp only [maxLen] at hc10; have own10 := own_keep (w' := w10) Hown.out (fun g hg => hb10.block g (Hown.out.lt g hg).2); have hs10 : w.heap.size ≤ w10.heap.size := Nat.le_trans hwb hb10.size; have Hr10 := Lib.hid hr10'; have Hb10 := Lib.hid hb10; have Hown10 := Lib.hid own10; clear hr10 hr10' hb10 own10)
    | (at_builtin; go_loud (refine pl_cat w10 rfl _ _ rfl w.heap.size (.slice Aw M.length cw) M rfl Hown10.out A10 c10 N rfl Hr10.out h0N (by omega) hs10 ?_; intro v12 w12 ho12 hb12)))
   go_roundw
   case rel => exact ⟨j + 1, by omega, by go_num, Lib.hid (by rw [Htk.out]; exact ho12), Lib.hid ((bthen Hbx.out Hb10.out).trans hb12)⟩
   case measure => simp [intOf]; omega
  ·obtain rfl : j = K.length := by omega
   rw [List.take_length, ← Hoe.out] at Hown
   go_wp2_with fail
   go_ret
   have hown' := Hown.out
   exact ⟨_, rfl, RdL.of_own (xs := (order f (k : Int)).map (Value.int .i64)) hown' rfl (fun g hg => (hown'.lt g hg).2) (fun i hi => ⟨by rw [Nat.mul_one, List.drop_eq_getElem_cons (by simpa using hi)]; simp, Hwf.out _ (List.getElem_mem hi)⟩), Hbx.out⟩
set_option maxRecDepth 100000 in
set_option maxHeartbeats 4000000 in
theorem Order_calls (w : World) (v : Value) (f : Fo) (h : RdF w.heap.size w v f) (hm : mayB f = true) (i : Int) : Calls Tryz.prog 49 #[v, .int .i64 i] w (OrderPost f i w) := by
 obtain ⟨A0, c0, rfl, hl0, hc0, h'⟩ := h.form
 have hnd := node_calls w A0 c0 f i
 unfold OrderPost
 cases hn : isNode f i with
 | false =>
  rw [hn] at hnd
  have hE : nodeErr f i = 70 := by unfold nodeErr; rw [hn]; rfl
  have hO : orderL f i = [] := by unfold orderL; rw [hn]; rfl
  rw [hE, hO]
  have Hnd := Lib.hid hnd
  clear hnd h h' hn hE hO hc0
  go_enter Tryz.func49, Tryz.ntmps49
  go_wp2_with (go_at_call 113; (with_reducible refine (Hnd.out).mono ?_); rintro e w5 ⟨rfl, rfl⟩)
  go_ret2
  exact ⟨_, rfl, RdL.nil, Below.refl _ _⟩
 | true =>
  rw [hn] at hnd
  have ho := order_calls f hm i hn w _ h
  have hE : nodeErr f i = 0 := by unfold nodeErr; rw [hn]; rfl
  have hO : orderL f i = order f i := by unfold orderL; rw [hn]; rfl
  rw [hE, hO]
  have Hnd := Lib.hid hnd; have Ho := Lib.hid ho
  clear hnd h h' hn hE hO hc0 ho
  go_enter Tryz.func49, Tryz.ntmps49
  go_wp2_with (first
   | (go_at_call 113; (with_reducible refine (Hnd.out).mono ?_); rintro e w5 ⟨rfl, rfl⟩)
   | (go_at_call 114; (with_reducible refine (Ho.out).mono ?_); rintro e w6 ⟨v6, rfl, hr6, hb6⟩; have Hr6 := Lib.hid hr6; have Hb6 := Lib.hid hb6; clear hr6 hb6))
  go_ret2
  exact ⟨_, rfl, Hr6.out, Hb6.out⟩
end Go.Proofs.YtmbhkkophkccbaaGreat.R8
end
section
namespace Go.Proofs.YtmbhkkophkccbaaGreat.Fi
open Go Go.RowKit WS FS Fn Pa Shapes
set_option linter.unusedVariables false
theorem comp_len {s : ByteArray} {b : Nat} : ∀ (n : Nat) (c : List Tst) (a : Nat) {x : List Tst × Nat}, compLoop s b n c a = .ok x → x.1.length ≤ c.length + n
 | 0, c, a, x, h => by rw [compLoop] at h; cases h
 | n + 1, c, a, x, h => by
  rw [compLoop] at h
  have key : ∀ (t : Tst) (a' : Nat), compLoop s b n (c ++ [t]) a' = .ok x → x.1.length ≤ c.length + (n + 1) := fun t a' h' => by
   have := comp_len n _ _ h'
   rw [List.length_append, List.length_singleton] at this
   omega
  split at h
  ·split at h
   ·cases h
   ·exact key _ _ h
  ·split at h
   ·split at h
    ·cases h
    ·exact key _ _ h
   ·split at h
    ·split at h
     ·cases h
     ·exact key _ _ h
    ·split at h
     ·cases h
     ·injection h with h
      subst h
      show c.length ≤ _
      omega
theorem compound_len {s : ByteArray} {a : Nat} {x : List Tst × Nat} (h : compoundP s a = .ok x) : x.1.length ≤ s.size + 2 := by
 unfold compoundP at h
 split at h
 ·have := comp_len _ _ _ h
  simp only [List.length_nil] at this
  omega
 ·split at h
  ·split at h
   ·cases h
   ·have := comp_len _ _ _ h
    simp only [List.length_singleton] at this
    omega
  ·have := comp_len _ _ _ h
   simp only [List.length_nil] at this
   omega
theorem row_len {s : ByteArray} : ∀ (n : Nat) (l : Sro) (ch : Bool) (a : Nat) {x : Sro × Nat}, rowLoop s n l ch a = .ok x → (∀ y ∈ l, y.c.length ≤ s.size + 2) → x.1.length ≤ l.length + n ∧ ∀ y ∈ x.1, y.c.length ≤ s.size + 2
 | 0, l, ch, a, x, h, _ => by rw [rowLoop] at h; cases h
 | n + 1, l, ch, a, x, h, hl => by
  rw [rowLoop] at h
  cases hN : compoundP s a with
  | error e => rw [hN] at h; cases h
  | ok y =>
   rw [hN] at h
   simp only at h
   have hl2 : ∀ z ∈ l ++ [{ c := y.1, child := ch }], z.c.length ≤ s.size + 2 := fun z hz => by
    rw [List.mem_append, List.mem_singleton] at hz
    rcases hz with hz | rfl
    ·exact hl z hz
    ·exact compound_len hN
   split at h
   ·injection h with h
    subst h
    exact ⟨by simp, hl2⟩
   ·split at h
    ·have := row_len n _ _ _ h hl2
     rw [List.length_append, List.length_singleton] at this
     exact ⟨by omega, this.2⟩
    ·split at h
     ·have := row_len n _ _ _ h hl2
      rw [List.length_append, List.length_singleton] at this
      exact ⟨by omega, this.2⟩
     ·cases h
theorem parse_len {s : ByteArray} : ∀ (n : Nat) (l : Sel) (a : Nat) {x : Sel}, parseLoop s n l a = .ok x → (∀ r ∈ l, r.length ≤ s.size + 1 ∧ ∀ y ∈ r, y.c.length ≤ s.size + 2) → x.length ≤ l.length + n ∧ ∀ r ∈ x, r.length ≤ s.size + 1 ∧ ∀ y ∈ r, y.c.length ≤ s.size + 2
 | 0, l, a, x, h, _ => by rw [parseLoop] at h; cases h
 | n + 1, l, a, x, h, hl => by
  rw [parseLoop] at h
  cases hN : rowP s a with
  | error e => rw [hN] at h; cases h
  | ok y =>
   rw [hN] at h
   simp only at h
   have hr := row_len _ _ _ _ hN (fun z hz => by cases hz)
   have hl2 : ∀ r ∈ l ++ [y.1], r.length ≤ s.size + 1 ∧ ∀ z ∈ r, z.c.length ≤ s.size + 2 := fun r hz => by
    rw [List.mem_append, List.mem_singleton] at hz
    rcases hz with hz | rfl
    ·exact hl r hz
    ·refine ⟨?_, hr.2⟩
     have := hr.1
     simp only [List.length_nil] at this
     omega
   split at h
   ·have := parse_len n _ _ h hl2
    rw [List.length_append, List.length_singleton] at this
    exact ⟨by omega, this.2⟩
   ·injection h with h
    subst h
    exact ⟨by simp, hl2⟩
theorem parse_z {s : ByteArray} {l : Sel} (h : parseP s = .ok l) (hs : s.size ≤ 1048576) : ZSel l := by
 obtain ⟨h1, h2⟩ := parse_len _ _ _ h (fun r hr => by cases hr)
 simp only [List.length_nil] at h1
 unfold ZSel ZStp reachBytes
 refine ⟨by omega, fun r hr => ⟨?_, fun x hx => ?_⟩⟩
 ·have := (h2 r hr).1; omega
 ·have := (h2 r hr).2 x hx; omega
end Go.Proofs.YtmbhkkophkccbaaGreat.Fi
end
section
namespace Go.Proofs.YtmbhkkophkccbaaGreat.Fi
open Go Go.RowKit Go.Proofs.YtmbhkkophkccbaaGreat.Seq WS FS Mem Rd Shapes Word FFam Fn Pa OwnF
set_option linter.unusedVariables false
set_option linter.unusedSimpArgs false
theorem info_rtest : (Tryz.prog.info? 117).map (fun i => (i.zero, i.size, i.bytes)) = some (some (.agg #[.int .i64 0, .string ⟨#[]⟩, .string ⟨#[]⟩]), 3, 40) := by kernel_rfl
theorem info_rstep : (Tryz.prog.info? 61).map (fun i => (i.zero, i.size, i.bytes)) = some (some (.agg #[.slice none 0 0, .bool false]), 2, 32) := by kernel_rfl
theorem info_rrow : (Tryz.prog.info? 62).map (fun i => (i.zero, i.size, i.bytes)) = some (some (.slice none 0 0), 1, 24) := by kernel_rfl
def testX : ElS Tst := fun _ _ cs t => cs = [.int .i64 t.kind, .string t.name, .string t.value] ∧ t.name.size ≤ maxLen ∧ t.value.size ≤ maxLen ∧ (Lit.int .i64 t.kind).wf = true
theorem testX_keeps : testX.Keeps := fun _ _ _ _ _ _ h _ _ _ => h
def stepX : ElS Stp := fun S w cs x => ∃ v, cs = [v, .bool x.child] ∧ RdE testX 3 S w v x.c
theorem stepX_keeps : stepX.Keeps := fun S S' w w' cs x ⟨v, h1, h2⟩ hk hs hS => ⟨v, h1, h2.keep testX_keeps hk hs hS⟩
def rowX : ElS Sro := fun S w cs x => ∃ v, cs = [v] ∧ RdE stepX 2 S w v x
theorem rowX_keeps : rowX.Keeps := fun S S' w w' cs x ⟨v, h1, h2⟩ hk hs hS => ⟨v, h1, h2.keep stepX_keeps hk hs hS⟩
theorem testX_of {S : Nat → Prop} {w : World} {cs : List Value} {t : Tst} (h : testX S w cs t) : testE w.heap.size w cs t := h
theorem stepX_of {S : Nat → Prop} {w : World} {cs : List Value} {x : Stp} (h : stepX S w cs x) : stepE w.heap.size w cs x := by
 obtain ⟨v, h1, h2⟩ := h
 exact ⟨v, h1, rdL_of h2 (fun _ _ => testX_of)⟩
theorem rowX_of {S : Nat → Prop} {w : World} {cs : List Value} {x : Sro} (h : rowX S w cs x) : rowE w.heap.size w cs x := by
 obtain ⟨v, h1, h2⟩ := h
 exact ⟨v, h1, rdL_of h2 (fun _ _ => stepX_of)⟩
theorem selX_of {S : Nat → Prop} {w : World} {v : Value} {l : Sel} (h : RdE rowX 1 S w v l) : RdSel w.heap.size w v l := rdL_of h (fun _ _ => rowX_of)
theorem heap_old_eq {w : World} {b : Nat} {o : Obj} (h : b < w.heap.size) : (w.alloc o).heap[b]? = w.heap[b]? := Below.heap_alloc _ _ _ h
def SBox (gn : Nat) (ch : Bool) (l : List Tst) (va : Value) (wo wi : World) : Prop :=
 wi.heap[gn]? = some (.cells #[va, .bool ch] 61 (0, 0)) ∧ wi.ownsRow (gn + 1) 117 3 va l.length (tsL l) ∧ Below wo.heap.size wo wi
theorem sbox_step {gn : Nat} {ch : Bool} {l : List Tst} {a : Tst} {va v7 : Value} {wo wr wm w7 : World} (hgn : gn = wo.heap.size)
  (h : SBox gn ch l va wo wr) (hwm : Below wr.heap.size wr wm)
  (hown : w7.ownsRow (gn + 1) 117 3 v7 (l ++ [a]).length (tsL (l ++ [a]))) (hgr : wm.grownBy w7 va.ownBlock) (hat : v7.ownBlock = va.ownBlock ∨ v7.ownBlock = some wm.heap.size) :
  SBox gn ch (l ++ [a]) v7 wo (w7.setCell ⟨gn, 0, none⟩ v7) := by
 obtain ⟨h1, h2, h3⟩ := h
 have hlt := lt_heap h1
 have hne : va.ownBlock ≠ some gn := fun e => by have := (h2.lt gn e).1; omega
 have e7 := (hgr.block gn (Nat.lt_of_lt_of_le hlt hwm.size) (fun e => hne e.symm)).trans ((hwm.block gn hlt).trans h1)
 have hg7 : ∀ g, v7.ownBlock = some g → g ≠ gn := fun g hg e => by
  subst e
  rcases hat with e | e
  ·exact hne (by rw [← e, hg])
  ·rw [hg] at e; injection e with e; have := hwm.size; omega
 refine ⟨(Repl.setCell_row e7).trans rfl, own_keep hown (fun g hg => Below.heap_setCell _ _ _ _ (hg7 g hg)), ?_⟩
 have b1 : Below wo.heap.size wo wm := bthen h3 hwm
 have b2 := b1.trans ((Off.grown (Y := fun b => wo.heap.size ≤ b) hgr (fun r hr => by have := (h2.lt r hr).1; omega)).toBelow b1.size (fun b hb => hb))
 exact b2.setCell (by show wo.heap.size ≤ gn; omega) _
theorem rdX {w : World} {base : Nat} {S : Nat → Prop} {v : Value} {l : List Tst} (h : w.ownsRow base 117 3 v l.length (tsL l)) (hS : ∀ g, v.ownBlock = some g → S g) (hm : ∀ t ∈ l, t.name.size ≤ maxLen ∧ t.value.size ≤ maxLen ∧ (Lit.int .i64 t.kind).wf = true) : RdE testX 3 S w v l :=
 RdS.of_own h rfl hS (fun i hi => ⟨tsL_at hi, hm _ (List.getElem_mem _)⟩)
theorem OwnE.rdN {α : Type} {E : ElS α} {T : TypeId} {sz base br : Nat} {w : World} {v : Value} {l : List α} (hE : E.Keeps) (h : OwnE E T sz base br w v l) : RdE E sz (fun b => base ≤ b) w v l := by
 obtain ⟨xs, h1, h2⟩ := h.out
 exact RdS.of_own h1 rfl (fun g hg => (h1.lt g hg).1) (fun i hi => hE _ _ _ _ _ _ (h2 i hi) (fun _ _ _ => rfl) (Nat.le_refl _) (fun b x _ => x.2))
set_option maxRecDepth 100000 in
set_option maxHeartbeats 16000000 in
theorem rows_calls (w : World) (v : Value) (l : Sel) (h : RdSel w.heap.size w v l) (hz : ZSel l) :
  Calls Tryz.prog 20 #[v] w fun e w' => ∃ u, e = .returned u ∧ RdSel w'.heap.size w' u l ∧ Below w.heap.size w w' := by
 obtain ⟨A0, c0, rfl, hl0, hc0, h'⟩ := h.form
 simp only [maxLen] at hc0
 obtain ⟨hz0, hzr⟩ := hz
 unfold reachBytes at hz0
 obtain ⟨i1, hi1, hy0, hy1, hy2⟩ := info_parts info_rtest
 obtain ⟨i2, hi2, hu0, hu1, hu2⟩ := info_parts info_rstep
 obtain ⟨i3, hi3, hv0, hv1, hv2⟩ := info_parts info_rrow
 have hrl := fun w' (hb : Below w.heap.size w w') => h'.below rowE_keeps (w' := w') hb (Nat.le_refl _)
 have Hrl := Lib.hid hrl; have Hzr := Lib.hid hzr
 clear h h' hrl hzr
 go_enter Tryz.func20, Tryz.ntmps20
 go_wp2_with fail
 have hO0 : OwnE rowX 62 1 w.heap.size w.heap.size (w.alloc (.cells #[] 62)) (.slice (some ⟨w.heap.size, 0, none⟩) 0 0) (l.take 0) := ⟨[], World.ownsRow_lit w #[] 0 (Nat.le_refl _) (by decide) rfl, fun i hi => absurd hi (by simp)⟩
 have HO0 := Lib.hid hO0
 clear hO0
 go_loopw [3, 4] (fun u i wr => ∃ k : Nat, k ≤ l.length ∧ i = .int .i64 k ∧ Hid (OwnE rowX 62 1 w.heap.size w.heap.size wr u (l.take k)) ∧ Hid (Below w.heap.size w wr)) (fun _ i _ => l.length - (intOf i).toNat)
 case atStart => exact ⟨0, Nat.zero_le _, rfl, HO0, Lib.hid ((Below.refl _ _).alloc (Nat.le_refl _) _)⟩
 case round =>
  obtain ⟨k, hk, rfl, hO, hb⟩ := hrel
  obtain ⟨xsO, hrowO, hndO⟩ := hO.out.out
  rw [show (l.take k).length = k by rw [List.length_take]; omega] at hrowO
  obtain ⟨AO, cO, rfl⟩ := LShown.slice_of hrowO
  have HrowO := Lib.hid hrowO; have HndO := Lib.hid hndO
  clear hrowO hndO
  by_cases hlt : k < l.length
  ·obtain ⟨wo, rfl⟩ : ∃ wo : World, wo = wr := ⟨_, rfl⟩
   obtain ⟨br, or_, Ar, cr, rfl, hbr, r0, hrow, hlr, hcr⟩ := row_at (Hrl.out wo hb.out) hlt
   simp only [maxLen] at hcr
   obtain ⟨hzr0, hzs⟩ := Hzr.out l[k] (List.getElem_mem hlt)
   unfold reachBytes at hzr0
   have htk : l.take (k + 1) = l.take k ++ [l[k]] := List.take_succ_eq_append_getElem hlt
   have hkl : (l.take k).length = k := by rw [List.length_take]; omega
   have hstp := fun w' (hx : Below wo.heap.size wo w') => And.intro (cell_grow hx r0) (hrow.below stepE_keeps (w' := w') hx hb.out.size)
   have Hstp := Lib.hid hstp; have Hzs := Lib.hid hzs; have Htk := Lib.hid htk; have Hb := Lib.hid hb.out; have Hkl := Lib.hid hkl
   clear hstp hzs htk hb hkl hrow
   generalize l[k] = r at *
   go_wp2_with fail
   have hR0 : OwnE stepX 61 2 wo.heap.size wo.heap.size (wo.alloc (.cells #[] 61)) (.slice (some ⟨wo.heap.size, 0, none⟩) 0 0) (r.take 0) := ⟨[], World.ownsRow_made wo #[] 0 (Nat.le_refl _) (by simp [maxLen]) (by simp), fun i hi => absurd hi (by simp)⟩
   have HR0 := Lib.hid hR0
   clear hR0
   go_loopw [5, 6] (fun u i wx => ∃ m : Nat, m ≤ r.length ∧ i = .int .i64 m ∧ Hid (OwnE stepX 61 2 wo.heap.size wo.heap.size wx u (r.take m)) ∧ Hid (Below wo.heap.size wo wx)) (fun _ i _ => r.length - (intOf i).toNat)
   case atStart => exact ⟨0, Nat.zero_le _, rfl, HR0, Lib.hid ((Below.refl _ _).alloc (Nat.le_refl _) _)⟩
   case round =>
    obtain ⟨m, hm, rfl, hR, hbm⟩ := hrel
    obtain ⟨xsR, hrowR, hndR⟩ := hR.out.out
    rw [show (r.take m).length = m by rw [List.length_take]; omega] at hrowR
    obtain ⟨AR, cR, rfl⟩ := LShown.slice_of hrowR
    have HrowR := Lib.hid hrowR; have HndR := Lib.hid hndR
    clear hrowR hndR
    by_cases hml : m < r.length
    ·obtain ⟨wz, rfl⟩ : ∃ wz : World, wz = wr := ⟨_, rfl⟩
     obtain ⟨r1, hrd1⟩ := Hstp.out wz hbm.out
     obtain ⟨bs, os, At, ct, rfl, hbs, s0, s1, htst, hlt1, hlt2⟩ := step_at hrd1 hml
     simp only [maxLen] at hlt2
     have hzs := Hzs.out r[m] (List.getElem_mem hml)
     unfold ZStp reachBytes at hzs
     have htm : r.take (m + 1) = r.take m ++ [r[m]] := List.take_succ_eq_append_getElem hml
     have hml2 : (r.take m).length = m := by rw [List.length_take]; omega
     have hsrc := fun w' (hx : Below wz.heap.size wz w') => And.intro (cell_grow hx r1) (And.intro (cell_grow hx s0) (htst.below testE_keeps (w' := w') hx hbm.out.size))
     have hsmt := ts_sm htst
     have Hsrc := Lib.hid hsrc; have Htm := Lib.hid htm; have Hbm := Lib.hid hbm.out; have Hml2 := Lib.hid hml2; have Hsmt := Lib.hid hsmt
     clear hsrc htm hbm hml2 htst hrd1 hR hsmt
     generalize r[m] = x at *
     obtain ⟨c, ch⟩ := x
     simp only at *
     go_upto_region 10 with fail
     obtain ⟨gn, hgn⟩ : ∃ gn, gn = wz.heap.size := ⟨_, rfl⟩
     have hG0 : SBox gn ch (c.take 0) (.slice none 0 0) wz (wz.alloc (.cells #[.slice none 0 0, .bool ch] 61)) := ⟨heap_new hgn, World.ownsRow_nil _ _ _ _, (Below.refl _ wz).alloc (Nat.le_refl _) _⟩
     rw [← hgn]
     have HG0 := Lib.hid hG0; have Hgn := Lib.hid hgn
     clear hG0 hgn r1 s0 s1
     go_wp2_with fail
     go_loopw [8] (fun i wi => ∃ (j : Nat) (va : Value), j ≤ c.length ∧ i = .int .i64 j ∧ Hid (SBox gn ch (c.take j) va wz wi)) (fun i _ => c.length - (intOf i).toNat)
     case atStart => exact ⟨0, _, Nat.zero_le _, rfl, HG0⟩
     case round =>
      obtain ⟨j, va, hj, rfl, hN⟩ := hrel
      obtain ⟨hbx, hrowc, hbel⟩ := hN.out
      obtain ⟨r1, s0, htst⟩ := Hsrc.out wr hbel
      obtain ⟨A3, c3, rfl⟩ := LShown.slice_of hrowc
      have k0 : wr.cell? ⟨gn, 0, none⟩ = some (.slice A3 (c.take j).length c3) := (cell_of_row _ _ _ _ _ _ hbx).trans rfl
      by_cases hjl : j < c.length
      ·obtain ⟨r1z, s0z, htz⟩ := Hsrc.out wz (Below.refl _ _)
       obtain ⟨bt, ot, rfl, hbt, t0, t1, t2, _, _, _⟩ := test_at htz hjl
       have htj : c.take (j + 1) = c.take j ++ [c[j]] := List.take_succ_eq_append_getElem hjl
       have hcl : (c.take j).length = j := by rw [List.length_take]; omega
       have hjn : (j : Int) < c.length := by omega
       have hmn : (m : Int) < r.length := by omega
       have hkn : (k : Int) < l.length := by omega
       have hj0 : (0 : Int) ≤ (j : Int) := by omega
       have hm0 : (0 : Int) ≤ (m : Int) := by omega
       have hk0 : (0 : Int) ≤ (k : Int) := by omega
       have Hrowc := Lib.hid hrowc; have Hbx := Lib.hid hbx; have Hbel := Lib.hid hbel; have Htj := Lib.hid htj; have Hcl := Lib.hid hcl; have Htst := Lib.hid htst
       clear hrowc hbx hbel htj htst
       rw [hcl] at k0
       generalize c[j] = a at *
       clear hcl
       have hN2 : SBox gn ch (c.take j) (.slice A3 j c3) wz wr := by
        have h1 := hN.out
        rw [Hcl.out] at h1
        exact h1
       have HN2 := Lib.hid hN2
       have hHS := fun w' (hx : Below wz.heap.size wz w') => (⟨cell_grow hx r1z, cell_grow hx s0z, cell_grow hx t0, cell_grow hx t1, cell_grow hx t2⟩ : w'.cell? ⟨br, or_ + k, none⟩ = some (.slice (some ⟨bs, os, none⟩) r.length cr) ∧ w'.cell? ⟨bs, os + m * 2, none⟩ = some (.slice (some ⟨bt, ot, none⟩) c.length ct) ∧ w'.cell? ⟨bt, ot + j * 3, none⟩ = some (.int .i64 a.kind) ∧ w'.cell? ⟨bt, ot + j * 3 + 1, none⟩ = some (.string a.name) ∧ w'.cell? ⟨bt, ot + j * 3 + 2, none⟩ = some (.string a.value))
       have HHS := Lib.hid hHS
       obtain ⟨_, _, u0, u1, u2⟩ := hHS wr Hbel.out
       clear hHS hN2 t0 t1 t2 r1z s0z htz hN
       go_upto_region 13 with fail
       refine wp_region_held_drew (S := (fun w' => w'.cell? ⟨br, or_ + k, none⟩ = some (.slice (some ⟨bs, os, none⟩) r.length cr) ∧ w'.cell? ⟨bs, os + m * 2, none⟩ = some (.slice (some ⟨bt, ot, none⟩) c.length ct) ∧ w'.cell? ⟨bt, ot + j * 3, none⟩ = some (.int .i64 a.kind) ∧ w'.cell? ⟨bt, ot + j * 3 + 1, none⟩ = some (.string a.name) ∧ w'.cell? ⟨bt, ot + j * 3 + 2, none⟩ = some (.string a.value))) (by kernel_rfl) (HHS.out _ Hbel.out.drew) (fun hHeld => ?_)
       obtain ⟨wD, hwD⟩ : ∃ x, wr.drew = x := ⟨_, rfl⟩
       have HBD : Hid (Below wz.heap.size wz wD) := Lib.hid (by rw [← hwD]; exact Hbel.out.drew)
       have HWD : Hid (Below wr.heap.size wr wD) := Lib.hid (by rw [← hwD]; exact (Below.refl _ _).drew)
       have kD : wD.cell? ⟨gn, 0, none⟩ = some (.slice A3 j c3) := by rw [← hwD]; exact k0
       have hownD : wD.ownsRow (gn + 1) 117 3 (.slice A3 j c3) j (tsL (c.take j)) := by
        have h1 := Hrowc.out
        rw [Hcl.out] at h1
        rw [← hwD]
        exact h1.drew
       have HownD := Lib.hid hownD
       rw [hwD] at hHeld ⊢
       clear hwD hownD
       refine' wpAnyH_take (i := 0) (v := ?v0) rfl (by kernel_rfl) (by kernel_rfl) (by kernel_rfl) (fun _ _ _ h => h) (Or.inl ⟨by kernel_rfl, ?hy0⟩) (by assumption) ?rest0
       case hy0 => (intro w hSw; (try dsimp only at hSw); go_simp; (try with_reducible rfl))
       (try simp only [Act.put, List.getElem_toArray, List.getElem_cons_succ, List.getElem_cons_zero, List.setIfInBounds_toArray, List.set_cons_zero, List.set_cons_succ])
       refine' wpAnyH_take (i := 2) (v := ?v2) rfl (by kernel_rfl) (by kernel_rfl) (by kernel_rfl) (fun _ _ _ h => h) (Or.inl ⟨by kernel_rfl, ?hy2⟩) (by assumption) ?rest2
       case hy2 => (intro w hSw; (try dsimp only at hSw); go_simp; (try with_reducible rfl))
       (try simp only [Act.put, List.getElem_toArray, List.getElem_cons_succ, List.getElem_cons_zero, List.setIfInBounds_toArray, List.set_cons_zero, List.set_cons_succ])
       refine' wpAnyH_take (i := 3) (v := ?v3) rfl (by kernel_rfl) (by kernel_rfl) (by kernel_rfl) (fun _ _ _ h => h) (Or.inl ⟨by kernel_rfl, ?hy3⟩) (by assumption) ?rest3
       case hy3 => (intro w hSw; (try dsimp only at hSw); go_simp; (try with_reducible rfl))
       (try simp only [Act.put, List.getElem_toArray, List.getElem_cons_succ, List.getElem_cons_zero, List.setIfInBounds_toArray, List.set_cons_zero, List.set_cons_succ])
       refine' wpAnyH_take (i := 4) (v := ?v4) rfl (by kernel_rfl) (by kernel_rfl) (by kernel_rfl) (fun _ _ _ h => h) (Or.inl ⟨by kernel_rfl, ?hy4⟩) (by assumption) ?rest4
       case hy4 => (intro w hSw; (try dsimp only at hSw); go_simp; (try with_reducible rfl))
       (try simp only [Act.put, List.getElem_toArray, List.getElem_cons_succ, List.getElem_cons_zero, List.setIfInBounds_toArray, List.set_cons_zero, List.set_cons_succ])
       refine' wpAnyH_take (i := 5) (v := ?v5) rfl (by kernel_rfl) (by kernel_rfl) (by kernel_rfl) (fun _ _ _ h => h) (Or.inl ⟨by kernel_rfl, ?hy5⟩) (by assumption) ?rest5
       case hy5 => (intro w hSw; (try dsimp only at hSw); go_simp; (try with_reducible rfl))
       (try simp only [Act.put, List.getElem_toArray, List.getElem_cons_succ, List.getElem_cons_zero, List.setIfInBounds_toArray, List.set_cons_zero, List.set_cons_succ])
       refine' wpAnyH_take (i := 6) (v := ?v6) rfl (by kernel_rfl) (by kernel_rfl) (by kernel_rfl) (fun _ _ _ h => h) (Or.inl ⟨by kernel_rfl, ?hy6⟩) (by assumption) ?rest6
       case hy6 => (intro w hSw; (try dsimp only at hSw); go_simp; (try with_reducible rfl))
       (try simp only [Act.put, List.getElem_toArray, List.getElem_cons_succ, List.getElem_cons_zero, List.setIfInBounds_toArray, List.set_cons_zero, List.set_cons_succ])
       refine' wpAnyH_take (i := 7) (v := ?v7) rfl (by kernel_rfl) (by kernel_rfl) (by kernel_rfl) (fun _ _ _ h => h) (Or.inl ⟨by kernel_rfl, ?hy7⟩) (by assumption) ?rest7
       case hy7 => (intro w hSw; (try dsimp only at hSw); go_simp; (try with_reducible rfl))
       (try simp only [Act.put, List.getElem_toArray, List.getElem_cons_succ, List.getElem_cons_zero, List.setIfInBounds_toArray, List.set_cons_zero, List.set_cons_succ])
       refine' wpAnyH_take (i := 8) (v := ?v8) rfl (by kernel_rfl) (by kernel_rfl) (by kernel_rfl) (fun _ _ _ h => h) (Or.inl ⟨by kernel_rfl, ?hy8⟩) (by assumption) ?rest8
       case hy8 => (intro w hSw; (try dsimp only at hSw); go_simp; (try with_reducible rfl))
       (try simp only [Act.put, List.getElem_toArray, List.getElem_cons_succ, List.getElem_cons_zero, List.setIfInBounds_toArray, List.set_cons_zero, List.set_cons_succ])
       refine' wpAnyH_take (i := 9) (v := ?v9) rfl (by kernel_rfl) (by kernel_rfl) (by kernel_rfl) (fun _ _ _ h => h) (Or.inl ⟨by kernel_rfl, ?hy9⟩) (by assumption) ?rest9
       case hy9 => (intro w hSw; (try dsimp only at hSw); go_simp; (try with_reducible rfl))
       (try simp only [Act.put, List.getElem_toArray, List.getElem_cons_succ, List.getElem_cons_zero, List.setIfInBounds_toArray, List.set_cons_zero, List.set_cons_succ])
       refine' wpAnyH_take (i := 10) (v := ?v10) rfl (by kernel_rfl) (by kernel_rfl) (by kernel_rfl) (fun _ _ _ h => h) (Or.inl ⟨by kernel_rfl, ?hy10⟩) (by assumption) ?rest10
       case hy10 => (intro w hSw; (try dsimp only at hSw); go_simp; (try with_reducible rfl))
       (try simp only [Act.put, List.getElem_toArray, List.getElem_cons_succ, List.getElem_cons_zero, List.setIfInBounds_toArray, List.set_cons_zero, List.set_cons_succ])
       refine' wpAnyH_take (i := 11) (v := ?v11) rfl (by kernel_rfl) (by kernel_rfl) (by kernel_rfl) (fun _ _ _ h => h) (Or.inl ⟨by kernel_rfl, ?hy11⟩) (by assumption) ?rest11
       case hy11 => (intro w hSw; (try dsimp only at hSw); go_simp; (try with_reducible rfl))
       (try simp only [Act.put, List.getElem_toArray, List.getElem_cons_succ, List.getElem_cons_zero, List.setIfInBounds_toArray, List.set_cons_zero, List.set_cons_succ])
       refine' wpAnyH_take (i := 12) (v := ?v12) rfl (by kernel_rfl) (by kernel_rfl) (by kernel_rfl) (fun _ _ _ h => h) (Or.inl ⟨by kernel_rfl, ?hy12⟩) (by assumption) ?rest12
       case hy12 => (intro w hSw; (try dsimp only at hSw); go_simp; (try with_reducible rfl))
       (try simp only [Act.put, List.getElem_toArray, List.getElem_cons_succ, List.getElem_cons_zero, List.setIfInBounds_toArray, List.set_cons_zero, List.set_cons_succ])
       refine wpAnyH_ready (rs := [1, 13]) (by kernel_rfl) (by simp) ?_
       refine AllReadyH.cons rfl (fun K hK => ?_) (AllReadyH.cons rfl (fun K hK => ?_) AllReadyH.nil)
       ·go_simp
        refine hK.out _ _ (HHS.out _ HBD.out) (fun hHeld => ?_)
        clear hK K
        (try simp only [Act.put, List.getElem_toArray, List.getElem_cons_succ, List.getElem_cons_zero, List.setIfInBounds_toArray, List.set_cons_zero, List.set_cons_succ])
        refine wpAnyH_ready (rs := [13]) (by kernel_rfl) (by simp) ?_
        refine AllReadyH.cons rfl (fun K hK => ?_) AllReadyH.nil
        go_simp
        refine hK.out _ _ (HHS.out _ (HBD.out.alloc HBD.out.size _)) (fun hHeld => ?_)
        clear hK K
        (try simp only [Act.put, List.getElem_toArray, List.getElem_cons_succ, List.getElem_cons_zero, List.setIfInBounds_toArray, List.set_cons_zero, List.set_cons_succ])
        obtain ⟨w2, hw2⟩ : ∃ x, wD.alloc (Obj.cells #[.int .i64 a.kind, .string a.name, .string a.value] 117) = x := ⟨_, rfl⟩
        have HB2 : Hid (Below wz.heap.size wz w2) := Lib.hid (by rw [← hw2]; exact HBD.out.alloc HBD.out.size _)
        have HW2 : Hid (Below wr.heap.size wr w2) := Lib.hid (by rw [← hw2]; exact HWD.out.alloc HWD.out.size _)
        have k2 : w2.cell? ⟨gn, 0, none⟩ = some (.slice A3 j c3) := by rw [← hw2]; exact cell_alloc kD _
        have hblk : w2.heap[wD.heap.size]? = some (.cells #[.int .i64 a.kind, .string a.name, .string a.value] 117 (0, 0)) := by rw [← hw2]; exact World.alloc_heap_new wD _
        have hown2 : w2.ownsRow (gn + 1) 117 3 (.slice A3 j c3) j (tsL (c.take j)) := by rw [← hw2]; exact HownD.out.alloc _
        have Hblk := Lib.hid hblk; have Hown2 := Lib.hid hown2
        rw [hw2] at hHeld ⊢
        clear hw2 hblk hown2
        refine wpAnyH_ready (rs := [14]) (by kernel_rfl) (by simp) ?_
        refine AllReadyH.cons rfl (fun K hK => ?_) AllReadyH.nil
        refine if_want (by kernel_rfl) ?_
        refine oper_any (.tmp 49) (.tmp 61) 59 rfl (gn + 1) 117 i1 _ 3 40 Tryz.underlying59 hi1 hy0 hy1 hy2 rfl (by decide) (.slice A3 j c3) j (tsL (c.take j)) rfl Hown2.out (some ⟨wD.heap.size, 0, none⟩) 1 1 [.int .i64 a.kind, .string a.name, .string a.value] rfl (fun e => by cases e) rfl (fun ad hA => by injection hA with hA; subst hA; exact World.news_of_block Hblk.out) (by simp [Value.oneCell']) (by simp only [maxLen]; omega) (by omega) (by have := HW2.out.size; have := lt_heap Hbx.out; omega) ?_
        intro v7 w7 hown7 hgrow7 hat7
        rw [← tsL_snoc] at hown7
        obtain ⟨A7, c7, rfl⟩ := LShown.slice_of hown7
        have hB7 : Below wz.heap.size wz w7 := grown_belowN HB2.out hgrow7 Hown2.out (by have := Hgn.out; omega)
        have hbx2 := (HW2.out.block gn (lt_heap Hbx.out)).trans Hbx.out
        have e7 := (hgrow7.block gn (lt_heap hbx2) (fun e => by have := (Hown2.out.lt gn e.symm).1; omega)).trans hbx2
        have k7 : w7.cell? ⟨gn, 0, none⟩ = some (.slice A3 (c.take j).length c3) := (cell_of_row _ _ _ _ _ _ e7).trans rfl
        have k7f := Seq.free_of e7 0
        have hsb := sbox_step (a := a) (v7 := .slice A7 (j + 1) c7) Hgn.out HN2.out HW2.out (by rw [List.length_append, Hcl.out]; exact hown7) hgrow7 hat7
        have HB7 := Lib.hid hB7; have Hsb := Lib.hid hsb
        clear hB7 hbx2 e7 hsb hown7 hgrow7 hat7
        refine hK.out _ _ (HHS.out _ HB7.out) (fun hHeld => ?_)
        clear hK K
        (try simp only [Act.put, List.getElem_toArray, List.getElem_cons_succ, List.getElem_cons_zero, List.setIfInBounds_toArray, List.set_cons_zero, List.set_cons_succ])
        refine' wpAnyH_take (i := 15) (v := ?v15a) rfl (by kernel_rfl) (by kernel_rfl) (by kernel_rfl) (fun _ _ _ h => h) (Or.inl ⟨by kernel_rfl, ?hy15a⟩) (by assumption) ?rest15a
        case hy15a => (intro w hSw; (try dsimp only at hSw); go_simp; (try with_reducible rfl))
        (try simp only [Act.put, List.getElem_toArray, List.getElem_cons_succ, List.getElem_cons_zero, List.setIfInBounds_toArray, List.set_cons_zero, List.set_cons_succ])
        refine wpAnyH_ready (rs := [16]) (by kernel_rfl) (by simp) ?_
        refine AllReadyH.cons rfl (fun K hK => ?_) AllReadyH.nil
        go_simp
        refine hK.out _ _ (HHS.out _ (HB7.out.setCell (show wz.heap.size ≤ gn by have := Hgn.out; omega) _)) (fun hHeld => ?_)
        clear hK K
        (try simp only [Act.put, List.getElem_toArray, List.getElem_cons_succ, List.getElem_cons_zero, List.setIfInBounds_toArray, List.set_cons_zero, List.set_cons_succ])
        refine wpAnyH_done (by kernel_rfl) ?_ _
        go_wp2_with fail
        go_roundw
        case rel => exact ⟨j + 1, _, by omega, by go_num, Lib.hid (by rw [Htj.out]; exact Hsb.out)⟩
        case measure => simp [intOf]; omega
       ·go_simp
        refine hK.out _ _ (HHS.out _ (HBD.out.alloc HBD.out.size _)) (fun hHeld => ?_)
        clear hK K
        (try simp only [Act.put, List.getElem_toArray, List.getElem_cons_succ, List.getElem_cons_zero, List.setIfInBounds_toArray, List.set_cons_zero, List.set_cons_succ])
        obtain ⟨w2, hw2⟩ : ∃ x, wD.alloc (Obj.cells #[.int .i64 a.kind, .string a.name, .string a.value] 117) = x := ⟨_, rfl⟩
        have HB2 : Hid (Below wz.heap.size wz w2) := Lib.hid (by rw [← hw2]; exact HBD.out.alloc HBD.out.size _)
        have HW2 : Hid (Below wr.heap.size wr w2) := Lib.hid (by rw [← hw2]; exact HWD.out.alloc HWD.out.size _)
        have k2 : w2.cell? ⟨gn, 0, none⟩ = some (.slice A3 j c3) := by rw [← hw2]; exact cell_alloc kD _
        have hblk : w2.heap[wD.heap.size]? = some (.cells #[.int .i64 a.kind, .string a.name, .string a.value] 117 (0, 0)) := by rw [← hw2]; exact World.alloc_heap_new wD _
        have hown2 : w2.ownsRow (gn + 1) 117 3 (.slice A3 j c3) j (tsL (c.take j)) := by rw [← hw2]; exact HownD.out.alloc _
        have Hblk := Lib.hid hblk; have Hown2 := Lib.hid hown2
        rw [hw2] at hHeld ⊢
        clear hw2 hblk hown2
        refine wpAnyH_ready (rs := [1]) (by kernel_rfl) (by simp) ?_
        refine AllReadyH.cons rfl (fun K hK => ?_) AllReadyH.nil
        go_simp
        refine hK.out _ _ (HHS.out _ HB2.out) (fun hHeld => ?_)
        clear hK K
        (try simp only [Act.put, List.getElem_toArray, List.getElem_cons_succ, List.getElem_cons_zero, List.setIfInBounds_toArray, List.set_cons_zero, List.set_cons_succ])
        refine wpAnyH_ready (rs := [14]) (by kernel_rfl) (by simp) ?_
        refine AllReadyH.cons rfl (fun K hK => ?_) AllReadyH.nil
        refine if_want (by kernel_rfl) ?_
        refine oper_any (.tmp 49) (.tmp 61) 59 rfl (gn + 1) 117 i1 _ 3 40 Tryz.underlying59 hi1 hy0 hy1 hy2 rfl (by decide) (.slice A3 j c3) j (tsL (c.take j)) rfl Hown2.out (some ⟨wD.heap.size, 0, none⟩) 1 1 [.int .i64 a.kind, .string a.name, .string a.value] rfl (fun e => by cases e) rfl (fun ad hA => by injection hA with hA; subst hA; exact World.news_of_block Hblk.out) (by simp [Value.oneCell']) (by simp only [maxLen]; omega) (by omega) (by have := HW2.out.size; have := lt_heap Hbx.out; omega) ?_
        intro v7 w7 hown7 hgrow7 hat7
        rw [← tsL_snoc] at hown7
        obtain ⟨A7, c7, rfl⟩ := LShown.slice_of hown7
        have hB7 : Below wz.heap.size wz w7 := grown_belowN HB2.out hgrow7 Hown2.out (by have := Hgn.out; omega)
        have hbx2 := (HW2.out.block gn (lt_heap Hbx.out)).trans Hbx.out
        have e7 := (hgrow7.block gn (lt_heap hbx2) (fun e => by have := (Hown2.out.lt gn e.symm).1; omega)).trans hbx2
        have k7 : w7.cell? ⟨gn, 0, none⟩ = some (.slice A3 (c.take j).length c3) := (cell_of_row _ _ _ _ _ _ e7).trans rfl
        have k7f := Seq.free_of e7 0
        have hsb := sbox_step (a := a) (v7 := .slice A7 (j + 1) c7) Hgn.out HN2.out HW2.out (by rw [List.length_append, Hcl.out]; exact hown7) hgrow7 hat7
        have HB7 := Lib.hid hB7; have Hsb := Lib.hid hsb
        clear hB7 hbx2 e7 hsb hown7 hgrow7 hat7
        refine hK.out _ _ (HHS.out _ HB7.out) (fun hHeld => ?_)
        clear hK K
        (try simp only [Act.put, List.getElem_toArray, List.getElem_cons_succ, List.getElem_cons_zero, List.setIfInBounds_toArray, List.set_cons_zero, List.set_cons_succ])
        refine' wpAnyH_take (i := 15) (v := ?v15b) rfl (by kernel_rfl) (by kernel_rfl) (by kernel_rfl) (fun _ _ _ h => h) (Or.inl ⟨by kernel_rfl, ?hy15b⟩) (by assumption) ?rest15b
        case hy15b => (intro w hSw; (try dsimp only at hSw); go_simp; (try with_reducible rfl))
        (try simp only [Act.put, List.getElem_toArray, List.getElem_cons_succ, List.getElem_cons_zero, List.setIfInBounds_toArray, List.set_cons_zero, List.set_cons_succ])
        refine wpAnyH_ready (rs := [16]) (by kernel_rfl) (by simp) ?_
        refine AllReadyH.cons rfl (fun K hK => ?_) AllReadyH.nil
        go_simp
        refine hK.out _ _ (HHS.out _ (HB7.out.setCell (show wz.heap.size ≤ gn by have := Hgn.out; omega) _)) (fun hHeld => ?_)
        clear hK K
        (try simp only [Act.put, List.getElem_toArray, List.getElem_cons_succ, List.getElem_cons_zero, List.setIfInBounds_toArray, List.set_cons_zero, List.set_cons_succ])
        refine wpAnyH_done (by kernel_rfl) ?_ _
        go_wp2_with fail
        go_roundw
        case rel => exact ⟨j + 1, _, by omega, by go_num, Lib.hid (by rw [Htj.out]; exact Hsb.out)⟩
        case measure => simp [intOf]; omega
      ·obtain rfl : j = c.length := by omega
       rw [List.take_length] at hrowc hbx k0
       have k1 : wr.cell? ⟨gn, 1, none⟩ = some (.bool ch) := (cell_of_row _ _ _ _ _ _ hbx).trans rfl
       have hrR : wr.ownsRow wo.heap.size 61 2 (.slice AR m cR) m xsR := own_keep HrowR.out (fun q hq => hbel.block q (HrowR.out.lt q hq).2)
       have hrR2 : (wr.alloc (.cells #[.slice A3 c.length c3, .bool ch] 61)).ownsRow wo.heap.size 61 2 (.slice AR m cR) m xsR := hrR.alloc _
       have hgl : gn < wr.heap.size := lt_heap hbx
       have HrR2 := Lib.hid hrR2; have Hrowc := Lib.hid hrowc; have Hbel := Lib.hid hbel
       have hszo : wo.heap.size ≤ wr.heap.size := Nat.le_trans Hbm.out.size hbel.size
       clear hrR hrR2 hrowc hbx hbel htst hN
       go_wp2_with (at_builtin; go_loud (refine wpList_append_own_at (wr.alloc (.cells #[.slice A3 c.length c3, .bool ch] 61)) rfl _ _ 62 rfl wo.heap.size 61 i2 _ 2 32 Tryz.underlying62 hi2 hu0 hu1 hu2 rfl (by decide) (.slice AR m cR) m xsR rfl HrR2.out ⟨wr.heap.size, 0, none⟩ 1 1 [.slice A3 c.length c3, .bool ch] rfl rfl (World.news_of_block (cs := #[.slice A3 c.length c3, .bool ch]) (t := 61) (fr := (0, 0)) (heap_alloc_new wr _)) (by simp [Value.oneCell']) (by simp only [maxLen]; omega) (by omega) (by simp; omega) ?_; intro v8 w8 hown8 hgrow8 hnil8 hat8; have Hown8 := Lib.hid hown8; have Hgrow8 := Lib.hid hgrow8; have Hat8 := Lib.hid hat8; clear hown8 hgrow8 hnil8 hat8))
       go_roundw
       case rel =>
        refine ⟨m + 1, by omega, by go_num, Lib.hid ?_, Lib.hid (grown_belowN ((bthen Hbm.out Hbel.out).alloc hszo _) Hgrow8.out HrR2.out (Nat.le_refl _))⟩
        rw [Htm.out]
        refine OwnE.more stepX_keeps (w := wr.alloc (.cells #[.slice A3 c.length c3, .bool ch] 61)) (v := .slice AR m cR) (xs := xsR) (news := [.slice A3 c.length c3, .bool ch]) (by rw [Hml2.out]; exact HrR2.out) (fun i hi => stepX_keeps _ _ _ _ _ _ (HndR.out i hi) (fun b hb hlt => (heap_old_eq (Nat.lt_of_lt_of_le hlt Hbel.out.size)).trans (Hbel.out.block b hlt)) (Nat.le_trans Hbel.out.size (by simp)) (fun _ y _ => y)) rfl ?_ (by rw [Hml2.out]; exact Hown8.out) Hgrow8.out Hat8.out
        refine ⟨_, rfl, rdX (Hrowc.out.alloc _) (fun q hq => ?_) Hsmt.out⟩
        have h1 := (Hrowc.out.lt q hq).1
        have h2 := Hgn.out
        have h3 := Hbm.out.size
        refine ⟨fun e => ?_, by omega⟩
        have h4 := (HrowR.out.lt q e).2
        omega
       case measure => simp [intOf]; omega
    ·obtain rfl : m = r.length := by omega
     obtain ⟨r1, _⟩ := Hstp.out wr hbm.out
     have hrd2 := OwnE.rdN stepX_keeps hR.out
     rw [List.take_length] at hrd2
     have hrO : wr.ownsRow w.heap.size 62 1 (.slice AO k cO) k xsO := own_keep HrowO.out (fun q hq => hbm.out.block q (HrowO.out.lt q hq).2)
     have hrO2 : (wr.alloc (.cells #[.slice AR r.length cR] 62)).ownsRow w.heap.size 62 1 (.slice AO k cO) k xsO := hrO.alloc _
     have HrO2 := Lib.hid hrO2; have Hrd2 := Lib.hid hrd2; have Hbm := Lib.hid hbm.out
     have hszo : w.heap.size ≤ wr.heap.size := Nat.le_trans Hb.out.size hbm.out.size
     clear hrO hrO2 hrd2 hbm hR
     go_wp2_with (at_builtin; go_loud (refine wpList_append_own_at (wr.alloc (.cells #[.slice AR r.length cR] 62)) rfl _ _ 40 rfl w.heap.size 62 i3 _ 1 24 Tryz.underlying40 hi3 hv0 hv1 hv2 rfl (by decide) (.slice AO k cO) k xsO rfl HrO2.out ⟨wr.heap.size, 0, none⟩ 1 1 [.slice AR r.length cR] rfl rfl (World.news_of_block (cs := #[.slice AR r.length cR]) (t := 62) (fr := (0, 0)) (heap_alloc_new wr _)) (by simp [Value.oneCell']) (by simp only [maxLen]; omega) (by omega) (by simp; omega) ?_; intro v8 w8 hown8 hgrow8 hnil8 hat8; have Hown8 := Lib.hid hown8; have Hgrow8 := Lib.hid hgrow8; have Hat8 := Lib.hid hat8; clear hown8 hgrow8 hnil8 hat8))
     go_roundw
     case rel =>
      refine ⟨k + 1, by omega, by go_num, Lib.hid ?_, Lib.hid (grown_belowN ((bthen Hb.out Hbm.out).alloc hszo _) Hgrow8.out HrO2.out (Nat.le_refl _))⟩
      rw [Htk.out]
      refine OwnE.more rowX_keeps (w := wr.alloc (.cells #[.slice AR r.length cR] 62)) (v := .slice AO k cO) (xs := xsO) (news := [.slice AR r.length cR]) (by rw [Hkl.out]; exact HrO2.out) (fun i hi => rowX_keeps _ _ _ _ _ _ (HndO.out i hi) (fun b hb hlt => (heap_old_eq (Nat.lt_of_lt_of_le hlt Hbm.out.size)).trans (Hbm.out.block b hlt)) (Nat.le_trans Hbm.out.size (by simp)) (fun _ y _ => y)) rfl ?_ (by rw [Hkl.out]; exact Hown8.out) Hgrow8.out Hat8.out
      refine ⟨_, rfl, Hrd2.out.keep stepX_keeps (fun b _ hlt => heap_old_eq hlt) (by simp) (fun b hb hlt => ?_)⟩
      have h1 : wo.heap.size ≤ b := hb
      have h2 := Hb.out.size
      refine ⟨fun e => ?_, by omega⟩
      have h4 := (HrowO.out.lt b e).2
      omega
     case measure => simp [intOf]; omega
  ·obtain rfl : k = l.length := by omega
   have hfin := OwnE.rdN rowX_keeps hO.out
   have hfin2 : RdSel wr.heap.size wr (.slice AO l.length cO) l := by
    rw [List.take_length] at hfin
    exact selX_of hfin
   have Hfin := Lib.hid hfin2
   clear hfin hfin2 hlt
   go_wp2_with fail
   go_ret
   exact ⟨_, rfl, Hfin.out, hb.out⟩
end Go.Proofs.YtmbhkkophkccbaaGreat.Fi
end
