import Derived.Test.YtmbhkkophkccbaaGreatC25
import Derived.Test.YtmbhkkophkccbaaGreatC22
import Derived.Test.YtmbhkkophkccbaaGreatC26
import Derived.Test.YtmbhkkophkccbaaGreatC24
section
namespace Go.Proofs.YtmbhkkophkccbaaGreat.Sn
open Go Go.RowKit Go.Proofs.YtmbhkkophkccbaaGreat.Seq WS FS Mem Rd Shapes Word FFam Wk Fn Pa Hs
set_option linter.unusedVariables false
set_option linter.unusedSimpArgs false
structure Bx (w : World) (bf bq : Nat) (fv : Value) (q : Qy) (f : Fo) : Prop where
 f0 : w.heap[bf]? = some (.cells #[fv] 29 (0, 0))
 q0 : w.heap[bq]? = some (.cells #[.int .i64 q.kind, .int .i64 q.id, .int .i64 q.by_, .string q.text] 69 (0, 0))
 rd : RdF w.heap.size w fv f
theorem Bx.keep {w w' : World} {bf bq : Nat} {fv : Value} {q : Qy} {f : Fo} (h : Bx w bf bq fv q f) (hb : Below w.heap.size w w') : Bx w' bf bq fv q f :=
 ⟨(hb.block _ (lt_heap h.f0)).trans h.f0, (hb.block _ (lt_heap h.q0)).trans h.q0, (h.rd.below nodeE_keeps hb (Nat.le_refl _)).mono nodeE_keeps hb.size⟩
theorem Bx.qs {w : World} {bf bq : Nat} {fv : Value} {q : Qy} {f : Fo} (h : Bx w bf bq fv q f) : w.cell? ⟨bq, 0, none⟩ = some (.int .i64 q.kind) ∧ w.cell? ⟨bq, 1, none⟩ = some (.int .i64 q.id) ∧ w.cell? ⟨bq, 2, none⟩ = some (.int .i64 q.by_) ∧ w.cell? ⟨bq, 3, none⟩ = some (.string q.text) :=
 ⟨(cell_of_row _ _ _ _ _ _ h.q0).trans rfl, (cell_of_row _ _ _ _ _ _ h.q0).trans rfl, (cell_of_row _ _ _ _ _ _ h.q0).trans rfl, (cell_of_row _ _ _ _ _ _ h.q0).trans rfl⟩
theorem may_sm {f : Fo} (hm : mayB f = true) : ∀ n ∈ f, Sm n := fun n hn => by
 obtain ⟨i, hi, rfl⟩ := List.mem_iff_getElem.1 hn
 have h := ((may_is hm).node i hi).1
 rw [at_nat hi] at h
 have h0 : (⟨#[]⟩ : ByteArray).size = 0 := rfl
 unfold plainB at h
 unfold Sm
 split at h
 ·simp only [Bool.and_eq_true, decide_eq_true_eq] at h
  exact ⟨by omega, fun a ha => by rw [h.2] at ha; cases ha⟩
 ·split at h
  ·simp only [Bool.and_eq_true] at h
   have h1 := name_len h.1.1
   refine ⟨by rw [Lib.size_eq]; omega, fun a ha => ?_⟩
   have h2 := text_len ((attrs_parts h.2).2 a ha).2
   rw [Lib.size_eq]
   omega
  ·split at h
   ·simp only [Bool.and_eq_true, decide_eq_true_eq] at h
    exact ⟨by omega, fun a ha => by rw [h.1.2] at ha; cases ha⟩
   ·cases h
theorem node_wf {f : Fo} (hm : mayB f = true) {x : Int} (h : isNode f x = true) : (Lit.int .i64 x).wf = true := by
 have := (node_iff f x).1 h
 have := (may_is hm).len
 exact wf_small (by omega) (by omega)
theorem parent_wf {f : Fo} (hm : mayB f = true) (i : Int) (h : (parentE f i).2 = 0) : (Lit.int .i64 (parentE f i).1).wf = true := by
 unfold parentE at h ⊢
 split
 ·exact wf_small (by decide) (by decide)
 ·rename_i hn
  split
  ·exact wf_small (by decide) (by decide)
  ·obtain ⟨x, rfl, hx⟩ := node_nat (show isNode f i = true by simpa using hn)
   have := (may_is hm).par x hx
   have := (may_is hm).len
   exact wf_small (by omega) (by omega)
theorem kid_wf {f : Fo} (hm : mayB f = true) {p : Int} (hp : isNode f p = true) {x : Int} (hx : x ∈ (at_ f p).kids) : (Lit.int .i64 x).wf = true := by
 obtain ⟨j, hj, rfl⟩ := List.mem_iff_getElem.1 hx
 exact node_wf hm (fam_kids (may_is hm).fam hp (List.getElem_mem hj)).1
theorem beside_wf {f : Fo} (hm : mayB f = true) (i d : Int) (h : (besideE f i d).2 = 0) : (Lit.int .i64 (besideE f i d).1).wf = true := by
 unfold besideE at h ⊢
 split
 ·exact wf_small (by decide) (by decide)
 ·rename_i hn
  split
  ·exact wf_small (by decide) (by decide)
  ·rename_i hp
   split
   ·exact wf_small (by decide) (by decide)
   ·obtain ⟨x, rfl, hx⟩ := node_nat (show isNode f i = true by simpa using hn)
    have h1 := (may_is hm).par x hx
    have hpn : isNode f (at_ f (x : Int)).parent = true := (node_iff _ _).2 ⟨by omega, h1.2.1⟩
    by_cases hl : (idxL (at_ f (at_ f (x : Int)).parent).kids (x : Int) + d).toNat < (at_ f (at_ f (x : Int)).parent).kids.length
    ·rw [List.getD_eq_getElem?_getD, List.getElem?_eq_getElem hl]
     exact kid_wf hm hpn (List.getElem_mem hl)
    ·rw [List.getD_eq_getElem?_getD, List.getElem?_eq_none (by omega)]
     exact wf_small (by decide) (by decide)
theorem byId_wf {f : Fo} (hm : mayB f = true) (t : ByteArray) (h : (byIdV f (byId f t)).2 = 0) : (Lit.int .i64 (byIdV f (byId f t)).1).wf = true := by
 cases hb : byId f t with
 | none => exact wf_small (show (-1 : Int) ≤ 0 by decide) (show (0 : Int) < 1000 by decide)
 | some k =>
  unfold byId at hb
  have hk := List.mem_of_find?_eq_some hb
  have hn : isNode f 0 = true := nodeI (i := 0) (by have := (may_is hm).len; omega)
  exact node_wf hm ((order_mem (may_is hm) hn k).1 hk).1
noncomputable def chosenA (f : Fo) (q : Qy) : An := match parseP q.text with | .error b => { nums := [(b : Int)], e := 90 } | .ok l => if isNode f q.id = true then { nums := allS f q.id l } else { e := 70 }
noncomputable def printedA (f : Fo) (q : Qy) : An := if isNode f q.id = true then { text := ⟨(printF f q.id).toArray⟩ } else { e := 70 }
noncomputable def ofK (f : Fo) (q : Qy) : Nat → An
 | 1 => oneA (parentE f q.id)
 | 2 => { nums := (kidsE f q.id).1, e := (kidsE f q.id).2 }
 | 3 => oneA (besideE f q.id q.by_)
 | 4 => { nums := orderL f q.id, e := nodeErr f q.id }
 | 5 => { text := ⟨(contentO f q.id).toArray⟩, e := nodeErr f q.id }
 | 6 => { text := attrVal f q.id q.text, e := attrErr f q.id q.text }
 | 7 => oneA (byIdV f (byId f q.text))
 | 8 => chosenA f q
 | 9 => printedA f q
 | _ => { e := 1 }
set_option maxRecDepth 100000 in
theorem of1_calls (w : World) (bf bq : Nat) (A : Option Addr) (c : Nat) (q : Qy) (f : Fo) (hB : Bx w bf bq (.slice A f.length c) q f) (hm : mayB f = true) (hq : QyOk q) (ht : q.text.size ≤ 1048576) : Calls Tryz.prog 62 #[.pointer (some ⟨bf, 0, none⟩), .pointer (some ⟨bq, 0, none⟩)] w (AnsPost (ofK f q 1) w) := by
 obtain ⟨w1, hw1⟩ : ∃ w1, w.alloc (.cells z3 71) = w1 := ⟨_, rfl⟩
 have q1 : w1.heap[w.heap.size]? = some (.cells z3 71 (0, 0)) := by rw [← hw1]; exact World.alloc_heap_new _ _
 have hb1 : Below w.heap.size w w1 := by rw [← hw1]; exact (Below.refl _ _).alloc (Nat.le_refl _) _
 have hs1 : w1.heap.size = w.heap.size + 1 := by rw [← hw1]; simp
 have hB1 := hB.keep hb1
 have c0 := cell_of hB1.f0
 obtain ⟨c1, c2, c3, c4⟩ := hB1.qs
 have hin := Parent_calls w1 _ f hB1.rd q.id
 have hpe := parent_wf hm q.id
 unfold ofK
 obtain ⟨P, hP⟩ : ∃ P, P = parentE f q.id := ⟨_, rfl⟩
 rw [← hP] at hin hpe ⊢
 obtain ⟨PN, PE⟩ := P
 simp only at hin hpe
 have Hpe := Lib.hid hpe
 clear hpe hP
 have Hw1 := Lib.hid hw1; have Hq1 := Lib.hid q1; have Hb1 := Lib.hid hb1; have Hs1 := Lib.hid hs1; have Hin := Lib.hid hin
 clear hw1 q1 hb1 hs1 hin hB hB1 hm hq ht
 go_enter Tryz.func62, Tryz.ntmps62
 go_upto_region 1 with fail
 rw [Hw1.out]
 go_wp2_with (first | (go_at_call 64; (with_reducible refine (Hin.out).mono ?_); rintro e w5 ⟨rfl, hw5⟩; have hb5 : Below w1.heap.size w1 w5 := (by rw [← hw5]; exact Below.refl _ _); have Hb5 := Lib.hid hb5; clear hb5 hw5) | (go_at_call 63; (with_reducible refine (one_calls w5 PN PE Hpe.out).mono ?_); rintro e w6 ⟨A6, c6, rfl, hr6, hb6', hf6⟩; have hb6 : Below w1.heap.size w1 w6 := bthen Hb5.out hb6'; have q6 := (hb6.block _ (lt_heap Hq1.out)).trans Hq1.out; obtain ⟨x0, x1, x2⟩ := ans_cells q6; have ff := free_of q6; have Hq6 := Lib.hid q6; clear q6; have Hr6 := Lib.hid hr6; have Hb6 := Lib.hid (bthen Hb1.out hb6); have Hf6 := Lib.hid hf6; clear hr6 hb6 hb6' hf6))
 obtain ⟨WF, hWF⟩ : ∃ WF, ((w6.setCell ⟨w.heap.size, 0, none⟩ (.slice A6 (oneA (PN, PE)).nums.length c6)).setCell ⟨w.heap.size, 1, none⟩ (.string (oneA (PN, PE)).text)).setCell ⟨w.heap.size, 2, none⟩ (.int .i64 (oneA (PN, PE)).e) = WF := ⟨_, rfl⟩
 obtain ⟨qF, sF, kF, bF⟩ := ans_set Hq6.out hWF
 obtain ⟨z0, z1, z2⟩ := ans_cells qF
 rw [hWF]
 refine bodyPost_ret (v := .agg #[(.slice A6 (oneA (PN, PE)).nums.length c6), (.string (oneA (PN, PE)).text), (.int .i64 (oneA (PN, PE)).e)]) (by simp [results, go_sem, Tryz.results62, z0, z1, z2]) rfl ?_
 have hge := Hb5.out.size
 have hs1 := Hs1.out
 have hfr : Fresh w.heap.size (.slice A6 (oneA (PN, PE)).nums.length c6) := fun b o n c e h0 => by have := Hf6.out b o n c e h0; omega
 exact ⟨A6, c6, rfl, int_keep Hr6.out (fun b o n c e h0 => by have := Hf6.out b o n c e h0; omega) sF kF, bF _ _ Hb6.out (Nat.le_refl _), hfr⟩
set_option maxRecDepth 100000 in
theorem of2_calls (w : World) (bf bq : Nat) (A : Option Addr) (c : Nat) (q : Qy) (f : Fo) (hB : Bx w bf bq (.slice A f.length c) q f) (hm : mayB f = true) (hq : QyOk q) (ht : q.text.size ≤ 1048576) : Calls Tryz.prog 65 #[.pointer (some ⟨bf, 0, none⟩), .pointer (some ⟨bq, 0, none⟩)] w (AnsPost (ofK f q 2) w) := by
 obtain ⟨w1, hw1⟩ : ∃ w1, w.alloc (.cells z3 71) = w1 := ⟨_, rfl⟩
 have q1 : w1.heap[w.heap.size]? = some (.cells z3 71 (0, 0)) := by rw [← hw1]; exact World.alloc_heap_new _ _
 have hb1 : Below w.heap.size w w1 := by rw [← hw1]; exact (Below.refl _ _).alloc (Nat.le_refl _) _
 have hs1 : w1.heap.size = w.heap.size + 1 := by rw [← hw1]; simp
 have hB1 := hB.keep hb1
 have c0 := cell_of hB1.f0
 obtain ⟨c1, c2, c3, c4⟩ := hB1.qs
 have hin := KidsNew_calls w1 _ f hB1.rd hm q.id
 unfold KidsNew at hin
 unfold ofK
 obtain ⟨NL, hNL⟩ : ∃ NL, NL = (kidsE f q.id).1 := ⟨_, rfl⟩
 obtain ⟨PE, hPE⟩ : ∃ PE, PE = (kidsE f q.id).2 := ⟨_, rfl⟩
 rw [← hNL, ← hPE] at hin ⊢
 clear hNL hPE
 have Hw1 := Lib.hid hw1; have Hq1 := Lib.hid q1; have Hb1 := Lib.hid hb1; have Hs1 := Lib.hid hs1; have Hin := Lib.hid hin
 clear hw1 q1 hb1 hs1 hin hB hB1 hm hq ht
 go_enter Tryz.func65, Tryz.ntmps65
 go_upto_region 1 with fail
 rw [Hw1.out]
 go_wp2_with (first | (go_at_call 67; (with_reducible refine (Hin.out).mono ?_); rintro e w5 ⟨v5, rfl, hr5, hb5, hf5⟩; obtain ⟨A5, c5, rfl, _, _, _⟩ := hr5.form; have Hr5 := Lib.hid hr5; have Hb5 := Lib.hid hb5; have Hf5 := Lib.hid hf5; clear hr5 hb5 hf5) | (go_at_call 66; (with_reducible refine (many_calls w5 A5 NL.length c5 PE).mono ?_); rintro e w6 ⟨rfl, hb6'⟩; have hb6 : Below w1.heap.size w1 w6 := bthen Hb5.out hb6'; have q6 := (hb6.block _ (lt_heap Hq1.out)).trans Hq1.out; obtain ⟨x0, x1, x2⟩ := ans_cells q6; have ff := free_of q6; have Hq6 := Lib.hid q6; clear q6; have Hr6 := Lib.hid ((Hr5.out.below (intE_keeps _) hb6' (Nat.le_refl _)).mono (intE_keeps _) hb6'.size); have Hb6 := Lib.hid (bthen Hb1.out hb6); clear hb6 hb6'))
 obtain ⟨WF, hWF⟩ : ∃ WF, ((w6.setCell ⟨w.heap.size, 0, none⟩ (.slice A5 NL.length c5)).setCell ⟨w.heap.size, 1, none⟩ (.string ⟨#[]⟩)).setCell ⟨w.heap.size, 2, none⟩ (.int .i64 PE) = WF := ⟨_, rfl⟩
 obtain ⟨qF, sF, kF, bF⟩ := ans_set Hq6.out hWF
 obtain ⟨z0, z1, z2⟩ := ans_cells qF
 rw [hWF]
 refine bodyPost_ret (v := .agg #[(.slice A5 NL.length c5), (.string ⟨#[]⟩), (.int .i64 PE)]) (by simp [results, go_sem, Tryz.results65, z0, z1, z2]) rfl ?_
 have hs1 := Hs1.out
 exact ⟨A5, c5, rfl, int_keep Hr6.out (fun b o n c e h0 => by have := Hf5.out b o n c e h0; omega) sF kF, bF _ _ Hb6.out (Nat.le_refl _), fun b o n c e h0 => by have := Hf5.out b o n c e h0; omega⟩
set_option maxRecDepth 100000 in
theorem of3_calls (w : World) (bf bq : Nat) (A : Option Addr) (c : Nat) (q : Qy) (f : Fo) (hB : Bx w bf bq (.slice A f.length c) q f) (hm : mayB f = true) (hq : QyOk q) (ht : q.text.size ≤ 1048576) : Calls Tryz.prog 68 #[.pointer (some ⟨bf, 0, none⟩), .pointer (some ⟨bq, 0, none⟩)] w (AnsPost (ofK f q 3) w) := by
 obtain ⟨w1, hw1⟩ : ∃ w1, w.alloc (.cells z3 71) = w1 := ⟨_, rfl⟩
 have q1 : w1.heap[w.heap.size]? = some (.cells z3 71 (0, 0)) := by rw [← hw1]; exact World.alloc_heap_new _ _
 have hb1 : Below w.heap.size w w1 := by rw [← hw1]; exact (Below.refl _ _).alloc (Nat.le_refl _) _
 have hs1 : w1.heap.size = w.heap.size + 1 := by rw [← hw1]; simp
 have hB1 := hB.keep hb1
 have c0 := cell_of hB1.f0
 obtain ⟨c1, c2, c3, c4⟩ := hB1.qs
 have hin := Beside_calls w1 _ f hB1.rd hm q.id q.by_ hq.2.2.2
 have hpe := beside_wf hm q.id q.by_
 unfold ofK
 obtain ⟨P, hP⟩ : ∃ P, P = besideE f q.id q.by_ := ⟨_, rfl⟩
 rw [← hP] at hin hpe ⊢
 obtain ⟨PN, PE⟩ := P
 simp only at hin hpe
 have Hpe := Lib.hid hpe
 clear hpe hP
 have Hw1 := Lib.hid hw1; have Hq1 := Lib.hid q1; have Hb1 := Lib.hid hb1; have Hs1 := Lib.hid hs1; have Hin := Lib.hid hin
 clear hw1 q1 hb1 hs1 hin hB hB1 hm hq ht
 go_enter Tryz.func68, Tryz.ntmps68
 go_upto_region 1 with fail
 rw [Hw1.out]
 go_wp2_with (first | (go_at_call 69; (with_reducible refine (Hin.out).mono ?_); rintro e w5 ⟨rfl, hw5⟩; have hb5 : Below w1.heap.size w1 w5 := (by rw [← hw5]; exact Below.refl _ _); have Hb5 := Lib.hid hb5; clear hb5 hw5) | (go_at_call 63; (with_reducible refine (one_calls w5 PN PE Hpe.out).mono ?_); rintro e w6 ⟨A6, c6, rfl, hr6, hb6', hf6⟩; have hb6 : Below w1.heap.size w1 w6 := bthen Hb5.out hb6'; have q6 := (hb6.block _ (lt_heap Hq1.out)).trans Hq1.out; obtain ⟨x0, x1, x2⟩ := ans_cells q6; have ff := free_of q6; have Hq6 := Lib.hid q6; clear q6; have Hr6 := Lib.hid hr6; have Hb6 := Lib.hid (bthen Hb1.out hb6); have Hf6 := Lib.hid hf6; clear hr6 hb6 hb6' hf6))
 obtain ⟨WF, hWF⟩ : ∃ WF, ((w6.setCell ⟨w.heap.size, 0, none⟩ (.slice A6 (oneA (PN, PE)).nums.length c6)).setCell ⟨w.heap.size, 1, none⟩ (.string (oneA (PN, PE)).text)).setCell ⟨w.heap.size, 2, none⟩ (.int .i64 (oneA (PN, PE)).e) = WF := ⟨_, rfl⟩
 obtain ⟨qF, sF, kF, bF⟩ := ans_set Hq6.out hWF
 obtain ⟨z0, z1, z2⟩ := ans_cells qF
 rw [hWF]
 refine bodyPost_ret (v := .agg #[(.slice A6 (oneA (PN, PE)).nums.length c6), (.string (oneA (PN, PE)).text), (.int .i64 (oneA (PN, PE)).e)]) (by simp [results, go_sem, Tryz.results68, z0, z1, z2]) rfl ?_
 have hge := Hb5.out.size
 have hs1 := Hs1.out
 have hfr : Fresh w.heap.size (.slice A6 (oneA (PN, PE)).nums.length c6) := fun b o n c e h0 => by have := Hf6.out b o n c e h0; omega
 exact ⟨A6, c6, rfl, int_keep Hr6.out (fun b o n c e h0 => by have := Hf6.out b o n c e h0; omega) sF kF, bF _ _ Hb6.out (Nat.le_refl _), hfr⟩
set_option maxRecDepth 100000 in
theorem of4_calls (w : World) (bf bq : Nat) (A : Option Addr) (c : Nat) (q : Qy) (f : Fo) (hB : Bx w bf bq (.slice A f.length c) q f) (hm : mayB f = true) (hq : QyOk q) (ht : q.text.size ≤ 1048576) : Calls Tryz.prog 70 #[.pointer (some ⟨bf, 0, none⟩), .pointer (some ⟨bq, 0, none⟩)] w (AnsPost (ofK f q 4) w) := by
 obtain ⟨w1, hw1⟩ : ∃ w1, w.alloc (.cells z3 71) = w1 := ⟨_, rfl⟩
 have q1 : w1.heap[w.heap.size]? = some (.cells z3 71 (0, 0)) := by rw [← hw1]; exact World.alloc_heap_new _ _
 have hb1 : Below w.heap.size w w1 := by rw [← hw1]; exact (Below.refl _ _).alloc (Nat.le_refl _) _
 have hs1 : w1.heap.size = w.heap.size + 1 := by rw [← hw1]; simp
 have hB1 := hB.keep hb1
 have c0 := cell_of hB1.f0
 obtain ⟨c1, c2, c3, c4⟩ := hB1.qs
 have hin := OrderNew_calls w1 _ f hB1.rd hm q.id hq.2.2.1
 unfold OrderNew at hin
 unfold ofK
 obtain ⟨NL, hNL⟩ : ∃ NL, NL = orderL f q.id := ⟨_, rfl⟩
 obtain ⟨PE, hPE⟩ : ∃ PE, PE = nodeErr f q.id := ⟨_, rfl⟩
 rw [← hNL, ← hPE] at hin ⊢
 clear hNL hPE
 have Hw1 := Lib.hid hw1; have Hq1 := Lib.hid q1; have Hb1 := Lib.hid hb1; have Hs1 := Lib.hid hs1; have Hin := Lib.hid hin
 clear hw1 q1 hb1 hs1 hin hB hB1 hm hq ht
 go_enter Tryz.func70, Tryz.ntmps70
 go_upto_region 1 with fail
 rw [Hw1.out]
 go_wp2_with (first | (go_at_call 46; (with_reducible refine (Hin.out).mono ?_); rintro e w5 ⟨v5, rfl, hr5, hb5, hf5⟩; obtain ⟨A5, c5, rfl, _, _, _⟩ := hr5.form; have Hr5 := Lib.hid hr5; have Hb5 := Lib.hid hb5; have Hf5 := Lib.hid hf5; clear hr5 hb5 hf5) | (go_at_call 66; (with_reducible refine (many_calls w5 A5 NL.length c5 PE).mono ?_); rintro e w6 ⟨rfl, hb6'⟩; have hb6 : Below w1.heap.size w1 w6 := bthen Hb5.out hb6'; have q6 := (hb6.block _ (lt_heap Hq1.out)).trans Hq1.out; obtain ⟨x0, x1, x2⟩ := ans_cells q6; have ff := free_of q6; have Hq6 := Lib.hid q6; clear q6; have Hr6 := Lib.hid ((Hr5.out.below (intE_keeps _) hb6' (Nat.le_refl _)).mono (intE_keeps _) hb6'.size); have Hb6 := Lib.hid (bthen Hb1.out hb6); clear hb6 hb6'))
 obtain ⟨WF, hWF⟩ : ∃ WF, ((w6.setCell ⟨w.heap.size, 0, none⟩ (.slice A5 NL.length c5)).setCell ⟨w.heap.size, 1, none⟩ (.string ⟨#[]⟩)).setCell ⟨w.heap.size, 2, none⟩ (.int .i64 PE) = WF := ⟨_, rfl⟩
 obtain ⟨qF, sF, kF, bF⟩ := ans_set Hq6.out hWF
 obtain ⟨z0, z1, z2⟩ := ans_cells qF
 rw [hWF]
 refine bodyPost_ret (v := .agg #[(.slice A5 NL.length c5), (.string ⟨#[]⟩), (.int .i64 PE)]) (by simp [results, go_sem, Tryz.results70, z0, z1, z2]) rfl ?_
 have hs1 := Hs1.out
 exact ⟨A5, c5, rfl, int_keep Hr6.out (fun b o n c e h0 => by have := Hf5.out b o n c e h0; omega) sF kF, bF _ _ Hb6.out (Nat.le_refl _), fun b o n c e h0 => by have := Hf5.out b o n c e h0; omega⟩
set_option maxRecDepth 100000 in
theorem of5_calls (w : World) (bf bq : Nat) (A : Option Addr) (c : Nat) (q : Qy) (f : Fo) (hB : Bx w bf bq (.slice A f.length c) q f) (hm : mayB f = true) (hq : QyOk q) (ht : q.text.size ≤ 1048576) : Calls Tryz.prog 71 #[.pointer (some ⟨bf, 0, none⟩), .pointer (some ⟨bq, 0, none⟩)] w (AnsPost (ofK f q 5) w) := by
 obtain ⟨w1, hw1⟩ : ∃ w1, w.alloc (.cells z3 71) = w1 := ⟨_, rfl⟩
 have q1 : w1.heap[w.heap.size]? = some (.cells z3 71 (0, 0)) := by rw [← hw1]; exact World.alloc_heap_new _ _
 have hb1 : Below w.heap.size w w1 := by rw [← hw1]; exact (Below.refl _ _).alloc (Nat.le_refl _) _
 have hs1 : w1.heap.size = w.heap.size + 1 := by rw [← hw1]; simp
 have hB1 := hB.keep hb1
 have c0 := cell_of hB1.f0
 obtain ⟨c1, c2, c3, c4⟩ := hB1.qs
 have hin := Content_calls w1 _ f hB1.rd hm q.id hq.2.2.1
 unfold ContentPost at hin
 unfold ofK
 obtain ⟨TX, hTX⟩ : ∃ TX : ByteArray, TX = ⟨(contentO f q.id).toArray⟩ := ⟨_, rfl⟩
 obtain ⟨PE, hPE⟩ : ∃ PE, PE = nodeErr f q.id := ⟨_, rfl⟩
 rw [← hTX, ← hPE] at hin ⊢
 clear hTX hPE
 have Hw1 := Lib.hid hw1; have Hq1 := Lib.hid q1; have Hb1 := Lib.hid hb1; have Hs1 := Lib.hid hs1; have Hin := Lib.hid hin
 clear hw1 q1 hb1 hs1 hin hB hB1 hm hq ht
 go_enter Tryz.func71, Tryz.ntmps71
 go_upto_region 1 with fail
 rw [Hw1.out]
 go_wp2_with (first | (go_at_call 73; (with_reducible refine (Hin.out).mono ?_); rintro e w5 ⟨rfl, hb5⟩; have Hb5 := Lib.hid hb5; clear hb5) | (go_at_call 72; (with_reducible refine (text_calls w5 TX PE).mono ?_); rintro e w6 ⟨rfl, hb6'⟩; have hb6 : Below w1.heap.size w1 w6 := bthen Hb5.out hb6'; have q6 := (hb6.block _ (lt_heap Hq1.out)).trans Hq1.out; obtain ⟨x0, x1, x2⟩ := ans_cells q6; have ff := free_of q6; have Hq6 := Lib.hid q6; clear q6; have Hb6 := Lib.hid (bthen Hb1.out hb6); clear hb6 hb6'))
 obtain ⟨WF, hWF⟩ : ∃ WF, ((w6.setCell ⟨w.heap.size, 0, none⟩ (.slice none 0 0)).setCell ⟨w.heap.size, 1, none⟩ (.string TX)).setCell ⟨w.heap.size, 2, none⟩ (.int .i64 PE) = WF := ⟨_, rfl⟩
 obtain ⟨qF, sF, kF, bF⟩ := ans_set Hq6.out hWF
 obtain ⟨z0, z1, z2⟩ := ans_cells qF
 rw [hWF]
 refine bodyPost_ret (v := .agg #[(.slice none 0 0), (.string TX), (.int .i64 PE)]) (by simp [results, go_sem, Tryz.results71, z0, z1, z2]) rfl ?_
 exact ⟨none, 0, rfl, RdL.nil, bF _ _ Hb6.out (Nat.le_refl _), fun b o n c e h0 => by cases e⟩
set_option maxRecDepth 100000 in
theorem of6_calls (w : World) (bf bq : Nat) (A : Option Addr) (c : Nat) (q : Qy) (f : Fo) (hB : Bx w bf bq (.slice A f.length c) q f) (hm : mayB f = true) (hq : QyOk q) (ht : q.text.size ≤ 1048576) : Calls Tryz.prog 74 #[.pointer (some ⟨bf, 0, none⟩), .pointer (some ⟨bq, 0, none⟩)] w (AnsPost (ofK f q 6) w) := by
 obtain ⟨w1, hw1⟩ : ∃ w1, w.alloc (.cells z3 71) = w1 := ⟨_, rfl⟩
 have q1 : w1.heap[w.heap.size]? = some (.cells z3 71 (0, 0)) := by rw [← hw1]; exact World.alloc_heap_new _ _
 have hb1 : Below w.heap.size w w1 := by rw [← hw1]; exact (Below.refl _ _).alloc (Nat.le_refl _) _
 have hs1 : w1.heap.size = w.heap.size + 1 := by rw [← hw1]; simp
 have hB1 := hB.keep hb1
 have c0 := cell_of hB1.f0
 obtain ⟨c1, c2, c3, c4⟩ := hB1.qs
 have hin := Attr_calls w1 _ f hB1.rd q.id q.text
 unfold AttrPost at hin
 unfold ofK
 obtain ⟨TX, hTX⟩ : ∃ TX : ByteArray, TX = attrVal f q.id q.text := ⟨_, rfl⟩
 obtain ⟨PE, hPE⟩ : ∃ PE, PE = attrErr f q.id q.text := ⟨_, rfl⟩
 rw [← hTX, ← hPE] at hin ⊢
 clear hTX hPE
 have Hw1 := Lib.hid hw1; have Hq1 := Lib.hid q1; have Hb1 := Lib.hid hb1; have Hs1 := Lib.hid hs1; have Hin := Lib.hid hin
 clear hw1 q1 hb1 hs1 hin hB hB1 hm hq ht
 go_enter Tryz.func74, Tryz.ntmps74
 go_upto_region 1 with fail
 rw [Hw1.out]
 go_wp2_with (first | (go_at_call 75; (with_reducible refine (Hin.out).mono ?_); rintro e w5 ⟨rfl, hb5⟩; have Hb5 := Lib.hid hb5; clear hb5) | (go_at_call 72; (with_reducible refine (text_calls w5 TX PE).mono ?_); rintro e w6 ⟨rfl, hb6'⟩; have hb6 : Below w1.heap.size w1 w6 := bthen Hb5.out hb6'; have q6 := (hb6.block _ (lt_heap Hq1.out)).trans Hq1.out; obtain ⟨x0, x1, x2⟩ := ans_cells q6; have ff := free_of q6; have Hq6 := Lib.hid q6; clear q6; have Hb6 := Lib.hid (bthen Hb1.out hb6); clear hb6 hb6'))
 obtain ⟨WF, hWF⟩ : ∃ WF, ((w6.setCell ⟨w.heap.size, 0, none⟩ (.slice none 0 0)).setCell ⟨w.heap.size, 1, none⟩ (.string TX)).setCell ⟨w.heap.size, 2, none⟩ (.int .i64 PE) = WF := ⟨_, rfl⟩
 obtain ⟨qF, sF, kF, bF⟩ := ans_set Hq6.out hWF
 obtain ⟨z0, z1, z2⟩ := ans_cells qF
 rw [hWF]
 refine bodyPost_ret (v := .agg #[(.slice none 0 0), (.string TX), (.int .i64 PE)]) (by simp [results, go_sem, Tryz.results74, z0, z1, z2]) rfl ?_
 exact ⟨none, 0, rfl, RdL.nil, bF _ _ Hb6.out (Nat.le_refl _), fun b o n c e h0 => by cases e⟩
set_option maxRecDepth 100000 in
theorem of7_calls (w : World) (bf bq : Nat) (A : Option Addr) (c : Nat) (q : Qy) (f : Fo) (hB : Bx w bf bq (.slice A f.length c) q f) (hm : mayB f = true) (hq : QyOk q) (ht : q.text.size ≤ 1048576) : Calls Tryz.prog 76 #[.pointer (some ⟨bf, 0, none⟩), .pointer (some ⟨bq, 0, none⟩)] w (AnsPost (ofK f q 7) w) := by
 obtain ⟨w1, hw1⟩ : ∃ w1, w.alloc (.cells z3 71) = w1 := ⟨_, rfl⟩
 have q1 : w1.heap[w.heap.size]? = some (.cells z3 71 (0, 0)) := by rw [← hw1]; exact World.alloc_heap_new _ _
 have hb1 : Below w.heap.size w w1 := by rw [← hw1]; exact (Below.refl _ _).alloc (Nat.le_refl _) _
 have hs1 : w1.heap.size = w.heap.size + 1 := by rw [← hw1]; simp
 have hB1 := hB.keep hb1
 have c0 := cell_of hB1.f0
 obtain ⟨c1, c2, c3, c4⟩ := hB1.qs
 have hin := ById_calls w1 _ f hB1.rd hm q.text
 unfold ByIdPost at hin
 have hpe := byId_wf hm q.text
 unfold ofK
 obtain ⟨P, hP⟩ : ∃ P, P = byIdV f (byId f q.text) := ⟨_, rfl⟩
 rw [← hP] at hin hpe ⊢
 obtain ⟨PN, PE⟩ := P
 simp only at hin hpe
 have Hpe := Lib.hid hpe
 clear hpe hP
 have Hw1 := Lib.hid hw1; have Hq1 := Lib.hid q1; have Hb1 := Lib.hid hb1; have Hs1 := Lib.hid hs1; have Hin := Lib.hid hin
 clear hw1 q1 hb1 hs1 hin hB hB1 hm hq ht
 go_enter Tryz.func76, Tryz.ntmps76
 go_upto_region 1 with fail
 rw [Hw1.out]
 go_wp2_with (first | (go_at_call 77; (with_reducible refine (Hin.out).mono ?_); rintro e w5 ⟨rfl, hb5⟩; have Hb5 := Lib.hid hb5; clear hb5) | (go_at_call 63; (with_reducible refine (one_calls w5 PN PE Hpe.out).mono ?_); rintro e w6 ⟨A6, c6, rfl, hr6, hb6', hf6⟩; have hb6 : Below w1.heap.size w1 w6 := bthen Hb5.out hb6'; have q6 := (hb6.block _ (lt_heap Hq1.out)).trans Hq1.out; obtain ⟨x0, x1, x2⟩ := ans_cells q6; have ff := free_of q6; have Hq6 := Lib.hid q6; clear q6; have Hr6 := Lib.hid hr6; have Hb6 := Lib.hid (bthen Hb1.out hb6); have Hf6 := Lib.hid hf6; clear hr6 hb6 hb6' hf6))
 obtain ⟨WF, hWF⟩ : ∃ WF, ((w6.setCell ⟨w.heap.size, 0, none⟩ (.slice A6 (oneA (PN, PE)).nums.length c6)).setCell ⟨w.heap.size, 1, none⟩ (.string (oneA (PN, PE)).text)).setCell ⟨w.heap.size, 2, none⟩ (.int .i64 (oneA (PN, PE)).e) = WF := ⟨_, rfl⟩
 obtain ⟨qF, sF, kF, bF⟩ := ans_set Hq6.out hWF
 obtain ⟨z0, z1, z2⟩ := ans_cells qF
 rw [hWF]
 refine bodyPost_ret (v := .agg #[(.slice A6 (oneA (PN, PE)).nums.length c6), (.string (oneA (PN, PE)).text), (.int .i64 (oneA (PN, PE)).e)]) (by simp [results, go_sem, Tryz.results76, z0, z1, z2]) rfl ?_
 have hge := Hb5.out.size
 have hs1 := Hs1.out
 have hfr : Fresh w.heap.size (.slice A6 (oneA (PN, PE)).nums.length c6) := fun b o n c e h0 => by have := Hf6.out b o n c e h0; omega
 exact ⟨A6, c6, rfl, int_keep Hr6.out (fun b o n c e h0 => by have := Hf6.out b o n c e h0; omega) sF kF, bF _ _ Hb6.out (Nat.le_refl _), hfr⟩
end Go.Proofs.YtmbhkkophkccbaaGreat.Sn
end
section
namespace Go.Proofs.YtmbhkkophkccbaaGreat.Sn
open Go Go.RowKit Go.Proofs.YtmbhkkophkccbaaGreat.Seq WS FS Mem Rd Shapes Word FFam Wk Fn Pa Hs
set_option linter.unusedVariables false
set_option linter.unusedSimpArgs false
abbrev qyV (q : Qy) : Value := .agg #[.int .i64 q.kind, .int .i64 q.id, .int .i64 q.by_, .string q.text]
abbrev qyC (q : Qy) : Array Value := #[.int .i64 q.kind, .int .i64 q.id, .int .i64 q.by_, .string q.text]
theorem qy_cells {w : World} {b : Nat} {q : Qy} {T : TypeId} (h : w.heap[b]? = some (.cells (qyC q) T (0, 0))) : w.cell? ⟨b, 0, none⟩ = some (.int .i64 q.kind) ∧ w.cell? ⟨b, 1, none⟩ = some (.int .i64 q.id) ∧ w.cell? ⟨b, 2, none⟩ = some (.int .i64 q.by_) ∧ w.cell? ⟨b, 3, none⟩ = some (.string q.text) :=
 ⟨(cell_of_row _ _ _ _ _ _ h).trans rfl, (cell_of_row _ _ _ _ _ _ h).trans rfl, (cell_of_row _ _ _ _ _ _ h).trans rfl, (cell_of_row _ _ _ _ _ _ h).trans rfl⟩
theorem ans_new {w W : World} {b N : Nat} {x y z p q r : Value} {n : Int} {T : TypeId} (h : w.heap[b]? = some (.cells #[x, y, z] T (0, 0))) (hN : N = w.heap.size) (hW : (((w.setCell ⟨b, 0, none⟩ p).setCell ⟨b, 1, none⟩ q).setCell ⟨b, 2, none⟩ r).alloc (.cells #[.int .i64 n] 3) = W) :
  W.heap[b]? = some (.cells #[p, q, r] T (0, 0)) ∧ W.heap[N]? = some (.cells #[.int .i64 n] 3 (0, 0)) ∧ ∀ B w0, Below B w0 w → B ≤ b → Below B w0 W := by
 obtain ⟨W3, hW3⟩ : ∃ W3, ((w.setCell ⟨b, 0, none⟩ p).setCell ⟨b, 1, none⟩ q).setCell ⟨b, 2, none⟩ r = W3 := ⟨_, rfl⟩
 obtain ⟨q3, s3, k3, b3⟩ := ans_set h hW3
 rw [hW3] at hW
 subst hW hN
 exact ⟨heap_old q3, by rw [← s3]; exact World.alloc_heap_new _ _, fun B w0 hb hB => (b3 B w0 hb hB).alloc (by have := lt_heap q3; omega) _⟩
set_option maxRecDepth 100000 in
set_option maxHeartbeats 4000000 in
theorem chosen_calls (w : World) (A : Option Addr) (c : Nat) (q : Qy) (f : Fo) (h : RdF w.heap.size w (.slice A f.length c) f) (hm : mayB f = true) (hq : QyOk q) (ht : q.text.size ≤ 1048576) : Calls Tryz.prog 79 #[.slice A f.length c, qyV q] w (AnsPost (chosenA f q) w) := by
 obtain ⟨w1, hw1⟩ : ∃ w1, (w.alloc (.cells (qyC q) 69)).alloc (.cells z3 71) = w1 := ⟨_, rfl⟩
 have p1 : w1.heap[w.heap.size]? = some (.cells (qyC q) 69 (0, 0)) := by rw [← hw1]; exact heap_old (World.alloc_heap_new _ _)
 have q1 : w1.heap[w.heap.size + 1]? = some (.cells z3 71 (0, 0)) := by rw [← hw1]; exact heap_new (by simp)
 have hb1 : Below w.heap.size w w1 := by rw [← hw1]; exact ((Below.refl _ _).alloc (Nat.le_refl _) _).alloc (by simp) _
 have hs1 : w1.heap.size = w.heap.size + 2 := by rw [← hw1]; simp
 have h1 := (h.below nodeE_keeps hb1 (Nat.le_refl _)).mono nodeE_keeps hb1.size
 obtain ⟨c0, c1, c2, c3⟩ := qy_cells p1
 have hpa := parse_calls q.text ht w1
 unfold ParseQ at hpa
 have hall := fun w' (hb : Below w1.heap.size w1 w') vl l (hl : RdSel w'.heap.size w' vl l) hls => AllNew_calls w' _ f ((h1.below nodeE_keeps (w' := w') hb (Nat.le_refl _)).mono nodeE_keeps hb.size) hm (may_sm hm) q.id hq.2.2.1 vl l hl hls
 have hhas := fun w' => has_calls w' A f c q.id
 have Hw1 := Lib.hid hw1; have Hq1 := Lib.hid q1; have Hp1 := Lib.hid p1; have Hb1 := Lib.hid hb1; have Hs1 := Lib.hid hs1; have Hall := Lib.hid hall
 clear hw1 q1 p1 hb1 hs1 h h1 hm hq hall
 unfold chosenA
 cases hp : parseP q.text with
 | error b =>
  rw [hp] at hpa
  have hbw := parse_err hp
  have hbf : (Lit.int .i64 (b : Int)).wf = true := by
   simp only [Lit.wf, Bool.and_eq_true, decide_eq_true_eq]
   have e1 : IntKind.i64.min = -9223372036854775808 := rfl
   have e2 : IntKind.i64.max = 9223372036854775807 := rfl
   first | omega | (constructor <;> omega)
  have Hpa := Lib.hid hpa; have Hbf := Lib.hid hbf
  clear hpa hp hbw hbf hhas ht
  go_enter Tryz.func79, Tryz.ntmps79
  go_upto_region 1 with fail
  rw [Hw1.out]
  go_upto_region 3 with (go_at_call 27; (with_reducible refine (Hpa.out).mono ?_); rintro e w5 ⟨hb5, rfl⟩; have q5 := (hb5.block _ (lt_heap Hq1.out)).trans Hq1.out; obtain ⟨x0, x1, x2⟩ := ans_cells q5; have ff := free_of q5; have hl5 := lt_heap q5; have hn5 : ¬ w.heap.size + 1 = w5.heap.size := (by omega); have hn5' : ¬ w5.heap.size = w.heap.size + 1 := (by omega); have p5 := (hb5.block _ (lt_heap Hp1.out)).trans Hp1.out; obtain ⟨d0, d1, d2, d3⟩ := qy_cells p5; have Hq5 := Lib.hid q5; have Hb5 := Lib.hid hb5; clear q5 p5 hb5)
  go_wp2_with fail
  obtain ⟨WF, hWF⟩ : ∃ WF, (((w5.setCell ⟨w.heap.size + 1, 0, none⟩ (.slice (some ⟨w5.heap.size, 0, none⟩) 1 1)).setCell ⟨w.heap.size + 1, 1, none⟩ (.string ⟨#[]⟩)).setCell ⟨w.heap.size + 1, 2, none⟩ (.int .i64 90)).alloc (.cells #[.int .i64 (b : Int)] 3) = WF := ⟨_, rfl⟩
  obtain ⟨qF, rF, bF⟩ := ans_new Hq5.out rfl hWF
  obtain ⟨z0, z1, z2⟩ := ans_cells qF
  rw [hWF]
  refine bodyPost_ret (v := .agg #[.slice (some ⟨w5.heap.size, 0, none⟩) 1 1, .string ⟨#[]⟩, .int .i64 90]) (by simp [results, go_sem, Tryz.results79, z0, z1, z2]) rfl ?_
  have hge := Hb5.out.size
  have hs1 := Hs1.out
  exact ⟨_, _, rfl, rd_one rF Hbf.out, bF _ _ (bthen Hb1.out Hb5.out) (by omega), fun b o m c e h0 => by injection e with e; injection e with e; injection e with e; omega⟩
 | ok l =>
  rw [hp] at hpa
  have hsm := (parse_sm hp).2
  have Hpa := Lib.hid hpa; have Hsm := Lib.hid hsm
  clear hpa hp hsm ht
  cases hn : isNode f q.id with
  | false =>
   simp only [hn] at hhas
   have Hhas := Lib.hid hhas
   clear hhas hn
   simp only [Bool.false_eq_true, if_false]
   go_enter Tryz.func79, Tryz.ntmps79
   go_upto_region 1 with fail
   rw [Hw1.out]
   go_upto_region 5 with (first | (go_at_call 27; (with_reducible refine (Hpa.out).mono ?_); rintro e w5 ⟨hb5, v5, rfl, hr5⟩; have q5 := (hb5.block _ (lt_heap Hq1.out)).trans Hq1.out; obtain ⟨x0, x1, x2⟩ := ans_cells q5; have ff := free_of q5; have hl5 := lt_heap q5; have hn5 : ¬ w.heap.size + 1 = w5.heap.size := (by omega); have hn5' : ¬ w5.heap.size = w.heap.size + 1 := (by omega); have p5 := (hb5.block _ (lt_heap Hp1.out)).trans Hp1.out; obtain ⟨d0, d1, d2, d3⟩ := qy_cells p5; have Hq5 := Lib.hid q5; have Hb5 := Lib.hid hb5; clear q5 p5 hb5 hr5) | (go_at_call 140; (with_reducible refine (Hhas.out _).mono ?_); rintro e w6 ⟨rfl, rfl⟩))
   go_wp2_with fail
   obtain ⟨WF, hWF⟩ : ∃ WF, ((w5.setCell ⟨w.heap.size + 1, 0, none⟩ (.slice none 0 0)).setCell ⟨w.heap.size + 1, 1, none⟩ (.string ⟨#[]⟩)).setCell ⟨w.heap.size + 1, 2, none⟩ (.int .i64 70) = WF := ⟨_, rfl⟩
   obtain ⟨qF, sF, kF, bF⟩ := ans_set Hq5.out hWF
   obtain ⟨z0, z1, z2⟩ := ans_cells qF
   rw [hWF]
   refine bodyPost_ret (v := .agg #[(.slice none 0 0), (.string ⟨#[]⟩), (.int .i64 70)]) (by simp [results, go_sem, Tryz.results79, z0, z1, z2]) rfl ?_
   exact ⟨none, 0, rfl, RdL.nil, bF _ _ (bthen Hb1.out Hb5.out) (by omega), fun b o n c e h0 => by cases e⟩
  | true =>
   simp only [hn] at hhas
   have Hhas := Lib.hid hhas
   clear hhas hn
   simp only [if_true]
   generalize hLL : allS f q.id l = L at *
   go_enter Tryz.func79, Tryz.ntmps79
   go_upto_region 1 with fail
   rw [Hw1.out]
   go_upto_region 6 with (first | (go_at_call 27; (with_reducible refine (Hpa.out).mono ?_); rintro e w5 ⟨hb5, v5, rfl, hr5⟩; have q5 := (hb5.block _ (lt_heap Hq1.out)).trans Hq1.out; obtain ⟨x0, x1, x2⟩ := ans_cells q5; have ff := free_of q5; have hl5 := lt_heap q5; have hn5 : ¬ w.heap.size + 1 = w5.heap.size := (by omega); have hn5' : ¬ w5.heap.size = w.heap.size + 1 := (by omega); have p5 := (hb5.block _ (lt_heap Hp1.out)).trans Hp1.out; obtain ⟨d0, d1, d2, d3⟩ := qy_cells p5; have Hq5 := Lib.hid q5; have Hr5 := Lib.hid (sel_of hr5); have Hb5 := Lib.hid hb5; clear q5 p5 hb5 hr5) | (go_at_call 140; (with_reducible refine (Hhas.out _).mono ?_); rintro e w6 ⟨rfl, rfl⟩))
   have hal5 := Hall.out w5 Hb5.out v5 l Hr5.out Hsm.out
   obtain ⟨A5, c5, rfl, _, _, _⟩ := Hr5.out.form
   rw [hLL] at hal5
   have Hal := Lib.hid hal5
   clear hal5 hLL
   go_wp2_with (go_at_call 17; (with_reducible refine (Hal.out).mono ?_); rintro e w6 ⟨u6, rfl, hr6, hb6, hf6⟩; obtain ⟨A6, c6, rfl, _, _, _⟩ := hr6.form; have q6 := (hb6.block _ (lt_heap Hq5.out)).trans Hq5.out; obtain ⟨x0, x1, x2⟩ := ans_cells q6; have ff := free_of q6; have Hq6 := Lib.hid q6; have Hr6 := Lib.hid hr6; have Hb6 := Lib.hid (bthen Hb1.out (bthen Hb5.out hb6)); have Hf6 := Lib.hid hf6; clear q6 hr6 hb6 hf6)
   obtain ⟨WF, hWF⟩ : ∃ WF, ((w6.setCell ⟨w.heap.size + 1, 0, none⟩ (.slice A6 L.length c6)).setCell ⟨w.heap.size + 1, 1, none⟩ (.string ⟨#[]⟩)).setCell ⟨w.heap.size + 1, 2, none⟩ (.int .i64 0) = WF := ⟨_, rfl⟩
   obtain ⟨qF, sF, kF, bF⟩ := ans_set Hq6.out hWF
   obtain ⟨z0, z1, z2⟩ := ans_cells qF
   rw [hWF]
   refine bodyPost_ret (v := .agg #[(.slice A6 L.length c6), (.string ⟨#[]⟩), (.int .i64 0)]) (by simp [results, go_sem, Tryz.results79, z0, z1, z2]) rfl ?_
   have hge := Hb5.out.size
   have hs1 := Hs1.out
   exact ⟨A6, c6, rfl, int_keep Hr6.out (fun b o n c e h0 => by have := Hf6.out b o n c e h0; omega) sF kF, bF _ _ Hb6.out (by omega), fun b o n c e h0 => by have := Hf6.out b o n c e h0; omega⟩
set_option maxRecDepth 100000 in
set_option maxHeartbeats 4000000 in
theorem printed_calls (w : World) (A : Option Addr) (c : Nat) (q : Qy) (f : Fo) (h : RdF w.heap.size w (.slice A f.length c) f) (hm : mayB f = true) (hq : QyOk q) (ht : q.text.size ≤ 1048576) : Calls Tryz.prog 81 #[.slice A f.length c, qyV q] w (AnsPost (printedA f q) w) := by
 obtain ⟨w1, hw1⟩ : ∃ w1, (w.alloc (.cells (qyC q) 69)).alloc (.cells z3 71) = w1 := ⟨_, rfl⟩
 have p1 : w1.heap[w.heap.size]? = some (.cells (qyC q) 69 (0, 0)) := by rw [← hw1]; exact heap_old (World.alloc_heap_new _ _)
 have q1 : w1.heap[w.heap.size + 1]? = some (.cells z3 71 (0, 0)) := by rw [← hw1]; exact heap_new (by simp)
 have hb1 : Below w.heap.size w w1 := by rw [← hw1]; exact ((Below.refl _ _).alloc (Nat.le_refl _) _).alloc (by simp) _
 have hs1 : w1.heap.size = w.heap.size + 2 := by rw [← hw1]; simp
 have h1 := (h.below nodeE_keeps hb1 (Nat.le_refl _)).mono nodeE_keeps hb1.size
 obtain ⟨c0, c1, c2, c3⟩ := qy_cells p1
 have hpr := Pr.Print_calls w1 _ f q.id h1 (fun n hn => by have := Work.may_kids hm n hn; omega)
 have hhas := fun w' => has_calls w' A f c q.id
 have Hw1 := Lib.hid hw1; have Hq1 := Lib.hid q1; have Hp1 := Lib.hid p1; have Hb1 := Lib.hid hb1; have Hs1 := Lib.hid hs1; have Hpr := Lib.hid hpr
 obtain ⟨x0, x1, x2⟩ := ans_cells q1
 have ff := free_of q1
 clear hw1 q1 p1 hb1 hs1 h h1 hm hq hpr ht
 unfold printedA
 cases hn : isNode f q.id with
 | false =>
  simp only [hn] at hhas
  have Hhas := Lib.hid hhas
  clear hhas hn
  simp only [Bool.false_eq_true, if_false]
  go_enter Tryz.func81, Tryz.ntmps81
  go_upto_region 1 with fail
  rw [Hw1.out]
  go_wp2_with (go_at_call 140; (with_reducible refine (Hhas.out _).mono ?_); rintro e w6 ⟨rfl, rfl⟩)
  obtain ⟨WF, hWF⟩ : ∃ WF, ((w1.setCell ⟨w.heap.size + 1, 0, none⟩ (.slice none 0 0)).setCell ⟨w.heap.size + 1, 1, none⟩ (.string ⟨#[]⟩)).setCell ⟨w.heap.size + 1, 2, none⟩ (.int .i64 70) = WF := ⟨_, rfl⟩
  obtain ⟨qF, sF, kF, bF⟩ := ans_set Hq1.out hWF
  obtain ⟨z0, z1, z2⟩ := ans_cells qF
  rw [hWF]
  refine bodyPost_ret (v := .agg #[(.slice none 0 0), (.string ⟨#[]⟩), (.int .i64 70)]) (by simp [results, go_sem, Tryz.results81, z0, z1, z2]) rfl ?_
  exact ⟨none, 0, rfl, RdL.nil, bF _ _ Hb1.out (by omega), fun b o n c e h0 => by cases e⟩
 | true =>
  simp only [hn] at hhas
  have Hhas := Lib.hid hhas
  clear hhas hn
  simp only [if_true]
  obtain ⟨TX, hTX⟩ : ∃ TX : ByteArray, TX = ⟨(printF f q.id).toArray⟩ := ⟨_, rfl⟩
  rw [← hTX] at Hpr ⊢
  clear hTX
  go_enter Tryz.func81, Tryz.ntmps81
  go_upto_region 1 with fail
  rw [Hw1.out]
  go_wp2_with (first | (go_at_call 140; (with_reducible refine (Hhas.out _).mono ?_); rintro e w6 ⟨rfl, rfl⟩) | (go_at_call 141; (with_reducible refine (Hpr.out).mono ?_); rintro e w6 ⟨rfl, hb6⟩; have q6 := (hb6.block _ (lt_heap Hq1.out)).trans Hq1.out; obtain ⟨y0, y1, y2⟩ := ans_cells q6; have ff6 := free_of q6; have Hq6 := Lib.hid q6; have Hb6 := Lib.hid (bthen Hb1.out hb6); clear q6 hb6))
  obtain ⟨WF, hWF⟩ : ∃ WF, ((w6.setCell ⟨w.heap.size + 1, 0, none⟩ (.slice none 0 0)).setCell ⟨w.heap.size + 1, 1, none⟩ (.string TX)).setCell ⟨w.heap.size + 1, 2, none⟩ (.int .i64 0) = WF := ⟨_, rfl⟩
  obtain ⟨qF, sF, kF, bF⟩ := ans_set Hq6.out hWF
  obtain ⟨z0, z1, z2⟩ := ans_cells qF
  rw [hWF]
  refine bodyPost_ret (v := .agg #[(.slice none 0 0), (.string TX), (.int .i64 0)]) (by simp [results, go_sem, Tryz.results81, z0, z1, z2]) rfl ?_
  exact ⟨none, 0, rfl, RdL.nil, bF _ _ Hb6.out (by omega), fun b o n c e h0 => by cases e⟩
set_option maxRecDepth 100000 in
theorem of8_calls (w : World) (bf bq : Nat) (A : Option Addr) (c : Nat) (q : Qy) (f : Fo) (hB : Bx w bf bq (.slice A f.length c) q f) (hm : mayB f = true) (hq : QyOk q) (ht : q.text.size ≤ 1048576) : Calls Tryz.prog 78 #[.pointer (some ⟨bf, 0, none⟩), .pointer (some ⟨bq, 0, none⟩)] w (AnsPost (ofK f q 8) w) := by
 obtain ⟨w1, hw1⟩ : ∃ w1, w.alloc (.cells z3 71) = w1 := ⟨_, rfl⟩
 have q1 : w1.heap[w.heap.size]? = some (.cells z3 71 (0, 0)) := by rw [← hw1]; exact World.alloc_heap_new _ _
 have hb1 : Below w.heap.size w w1 := by rw [← hw1]; exact (Below.refl _ _).alloc (Nat.le_refl _) _
 have hs1 : w1.heap.size = w.heap.size + 1 := by rw [← hw1]; simp
 have hB1 := hB.keep hb1
 have c0 := cell_of hB1.f0
 obtain ⟨c1, c2, c3, c4⟩ := hB1.qs
 have hin := chosen_calls w1 A c q f hB1.rd hm hq ht
 unfold AnsPost at hin
 show Calls _ _ _ _ (AnsPost (chosenA f q) w)
 generalize chosenA f q = a at *
 have Hw1 := Lib.hid hw1; have Hq1 := Lib.hid q1; have Hb1 := Lib.hid hb1; have Hs1 := Lib.hid hs1; have Hin := Lib.hid hin
 clear hw1 q1 hb1 hs1 hin hB hB1 hm hq ht
 go_enter Tryz.func78, Tryz.ntmps78
 go_upto_region 1 with fail
 rw [Hw1.out]
 go_wp2_with (go_at_call 79; (with_reducible refine (Hin.out).mono ?_); rintro e w6 ⟨A6, c6, rfl, hr6, hb6, hf6⟩; have q6 := (hb6.block _ (lt_heap Hq1.out)).trans Hq1.out; obtain ⟨x0, x1, x2⟩ := ans_cells q6; have ff := free_of q6; have Hq6 := Lib.hid q6; have Hr6 := Lib.hid hr6; have Hb6 := Lib.hid (bthen Hb1.out hb6); have Hf6 := Lib.hid hf6; clear q6 hr6 hb6 hf6)
 obtain ⟨WF, hWF⟩ : ∃ WF, ((w6.setCell ⟨w.heap.size, 0, none⟩ (.slice A6 a.nums.length c6)).setCell ⟨w.heap.size, 1, none⟩ (.string a.text)).setCell ⟨w.heap.size, 2, none⟩ (.int .i64 a.e) = WF := ⟨_, rfl⟩
 obtain ⟨qF, sF, kF, bF⟩ := ans_set Hq6.out hWF
 obtain ⟨z0, z1, z2⟩ := ans_cells qF
 rw [hWF]
 refine bodyPost_ret (v := .agg #[(.slice A6 a.nums.length c6), (.string a.text), (.int .i64 a.e)]) (by simp [results, go_sem, Tryz.results78, z0, z1, z2]) rfl ?_
 have hs1 := Hs1.out
 exact ⟨A6, c6, rfl, int_keep Hr6.out (fun b o n c e h0 => by have := Hf6.out b o n c e h0; omega) sF kF, bF _ _ Hb6.out (Nat.le_refl _), fun b o n c e h0 => by have := Hf6.out b o n c e h0; omega⟩
set_option maxRecDepth 100000 in
theorem of9_calls (w : World) (bf bq : Nat) (A : Option Addr) (c : Nat) (q : Qy) (f : Fo) (hB : Bx w bf bq (.slice A f.length c) q f) (hm : mayB f = true) (hq : QyOk q) (ht : q.text.size ≤ 1048576) : Calls Tryz.prog 80 #[.pointer (some ⟨bf, 0, none⟩), .pointer (some ⟨bq, 0, none⟩)] w (AnsPost (ofK f q 9) w) := by
 obtain ⟨w1, hw1⟩ : ∃ w1, w.alloc (.cells z3 71) = w1 := ⟨_, rfl⟩
 have q1 : w1.heap[w.heap.size]? = some (.cells z3 71 (0, 0)) := by rw [← hw1]; exact World.alloc_heap_new _ _
 have hb1 : Below w.heap.size w w1 := by rw [← hw1]; exact (Below.refl _ _).alloc (Nat.le_refl _) _
 have hs1 : w1.heap.size = w.heap.size + 1 := by rw [← hw1]; simp
 have hB1 := hB.keep hb1
 have c0 := cell_of hB1.f0
 obtain ⟨c1, c2, c3, c4⟩ := hB1.qs
 have hin := printed_calls w1 A c q f hB1.rd hm hq ht
 unfold AnsPost at hin
 show Calls _ _ _ _ (AnsPost (printedA f q) w)
 generalize printedA f q = a at *
 have Hw1 := Lib.hid hw1; have Hq1 := Lib.hid q1; have Hb1 := Lib.hid hb1; have Hs1 := Lib.hid hs1; have Hin := Lib.hid hin
 clear hw1 q1 hb1 hs1 hin hB hB1 hm hq ht
 go_enter Tryz.func80, Tryz.ntmps80
 go_upto_region 1 with fail
 rw [Hw1.out]
 go_wp2_with (go_at_call 81; (with_reducible refine (Hin.out).mono ?_); rintro e w6 ⟨A6, c6, rfl, hr6, hb6, hf6⟩; have q6 := (hb6.block _ (lt_heap Hq1.out)).trans Hq1.out; obtain ⟨x0, x1, x2⟩ := ans_cells q6; have ff := free_of q6; have Hq6 := Lib.hid q6; have Hr6 := Lib.hid hr6; have Hb6 := Lib.hid (bthen Hb1.out hb6); have Hf6 := Lib.hid hf6; clear q6 hr6 hb6 hf6)
 obtain ⟨WF, hWF⟩ : ∃ WF, ((w6.setCell ⟨w.heap.size, 0, none⟩ (.slice A6 a.nums.length c6)).setCell ⟨w.heap.size, 1, none⟩ (.string a.text)).setCell ⟨w.heap.size, 2, none⟩ (.int .i64 a.e) = WF := ⟨_, rfl⟩
 obtain ⟨qF, sF, kF, bF⟩ := ans_set Hq6.out hWF
 obtain ⟨z0, z1, z2⟩ := ans_cells qF
 rw [hWF]
 refine bodyPost_ret (v := .agg #[(.slice A6 a.nums.length c6), (.string a.text), (.int .i64 a.e)]) (by simp [results, go_sem, Tryz.results80, z0, z1, z2]) rfl ?_
 have hs1 := Hs1.out
 exact ⟨A6, c6, rfl, int_keep Hr6.out (fun b o n c e h0 => by have := Hf6.out b o n c e h0; omega) sF kF, bF _ _ Hb6.out (Nat.le_refl _), fun b o n c e h0 => by have := Hf6.out b o n c e h0; omega⟩
end Go.Proofs.YtmbhkkophkccbaaGreat.Sn
end
