import Derived.Deep.RegionHeld3
import Derived.WalkLawsBesides
import Derived.Test.YtmbhkkophkccbaaGreatC03
import Derived.Test.YtmbhkkophkccbaaGreatC06
import Derived.Test.YtmbhkkophkccbaaGreatC15
import Derived.Test.YtmbhkkophkccbaaGreatC09
import Derived.Test.YtmbhkkophkccbaaGreatC08
section
namespace Go.Proofs.YtmbhkkophkccbaaGreat.WHas
open Go Go.RowKit Go.Shelf WS Go.Proofs.YtmbhkkophkccbaaGreat.Seq WordIt Mem
set_option linter.unusedVariables false
set_option linter.unusedSimpArgs false
attribute [local go_sem] Oper.semAt_some wide_fn wide_depth wide_round

theorem words_calls (s : ByteArray) (w : World) : Calls Tryz.prog 192 #[.string s] w fun e w' =>
  e = .returned (.func (.func 219) #[] #[.pointer (some ⟨w.heap.size, 0, none⟩)]) ∧ w' = w.alloc (.cells #[.string s] 9 (0, 0)) := by
 go_enter Tryz.func192, Tryz.ntmps192
 go_wp2
 go_ret
 exact ⟨rfl, rfl⟩

set_option maxHeartbeats 800000 in
theorem Has_calls (s token : ByteArray) (hs : s.size < 4294967281) (w : World) : Calls Tryz.prog 124 #[.string s, .string token] w fun e w' =>
  e = .returned (.bool ((words s.data.toList).contains token.data.toList)) ∧ Below w.heap.size w w' := by
 refine (callsIn_wide (n := 0)).1 ?_
 refine callsIn_of_wp_marks Tryz.func124 rfl trivial ?_ rfl
 simp only [Tryz.ntmps124, List.size_toArray, List.length_cons, List.length_nil, Nat.reduceAdd, Nat.reduceSub, Array.replicate_succ, Array.replicate_zero, List.push_toArray, List.append_toArray, List.nil_append, List.cons_append]
 gi_wp2_with (gi_at_call 192; refine (callsIn_wide.2 (words_calls _ _)).mono ?_; rintro e w' ⟨rfl, rfl⟩)
 obtain ⟨W0, hW0⟩ : ∃ W0, ((w.alloc (.cells #[.string token] 9 (0, 0))).alloc (.cells #[.bool false] 4 (0, 0))).alloc (.cells #[.string s] 9 (0, 0)) = W0 := ⟨_, rfl⟩
 have hbl : Below w.heap.size w W0 := by rw [← hW0]; exact (((Below.refl _ _).alloc (Nat.le_refl _) _).alloc (by simp) _).alloc (by simp; omega) _
 have hz : W0.heap.size = w.heap.size + 3 := by rw [← hW0]; simp
 have q0 : W0.heap[w.heap.size]? = some (.cells #[.string token] 9 (0, 0)) := by rw [← hW0]; exact heap_old (heap_old (heap_new rfl))
 have q1 : W0.heap[w.heap.size + 1]? = some (.cells #[.bool false] 4 (0, 0)) := by rw [← hW0]; exact heap_old (heap_new (by simp))
 have q2 : W0.heap[w.heap.size + 2]? = some (.cells #[.string s] 9 (0, 0)) := by rw [← hW0]; exact heap_new (by simp)
 rw [hW0]
 clear hW0
 generalize hb0 : w.heap.size = b0 at *
 have Hb0 := Lib.hid hb0; clear hb0
 refine wpIn_range rfl (enters_of Tryz.func219 (by kernel_rfl) rfl) (words_seq s hs (b0 + 2)) (fun W ho => ho.keep q2 (fun h => h))
  (fun k X W => W.heap[b0]? = some (.cells #[.string token] 9 (0, 0)) ∧ W.heap[b0 + 1]? = some (.cells #[.bool false] 4 (0, 0)) ∧ (∀ b, X b ↔ (b = b0 ∨ b = b0 + 1)) ∧ token.data.toList ∉ (words s.data.toList).take k)
  (fun c k X W => c = .ret ∧ W.heap[b0 + 1]? = some (.cells #[.bool true] 4 (0, 0)) ∧ (∀ b, X b ↔ (b = b0 ∨ b = b0 + 1)) ∧ b0 < W.heap.size ∧ token.data.toList ∈ words s.data.toList)
  ?hI ?hIx (fun b => b = b0 ∨ b = b0 + 1) (fun b h => ⟨by omega, fun h => h⟩) ⟨q0, q1, fun b => Iff.rfl, by simp⟩ (fun b h => by rcases h with h | h; omega; exact h.elim)
  (fun k => { tmps := #[.string s, .string token, undef, .pointer (some ⟨b0, 0, none⟩), .pointer (some ⟨b0 + 1, 0, none⟩), ((words s.data.toList).map str).getD k undef, .string s, .func (.func 219) #[] #[.pointer (some ⟨b0 + 2, 0, none⟩)], ((words s.data.toList).map str).getD k undef, undef, undef, undef], defers := [] })
  ?assign ?body ?done ?stop
 case hI =>
  refine ⟨?_, ?_⟩
  ·rintro k X W W' ⟨h1, h2, hx, hn⟩ ho
   exact ⟨ho.keep h1 (fun h => h ((hx _).2 (.inl rfl))), ho.keep h2 (fun h => h ((hx _).2 (.inr rfl))), hx, hn⟩
  ·rintro k X W b ⟨h1, h2, hx, hn⟩ hb
   rcases (hx b).1 hb with rfl | rfl
   ·exact lt_heap h1
   ·exact lt_heap h2
 case hIx =>
  intro c
  refine ⟨?_, ?_⟩
  ·rintro k X W W' ⟨hc, h2, hx, hl, hn⟩ ho
   exact ⟨hc, ho.keep h2 (fun h => h ((hx _).2 (.inr rfl))), hx, Nat.lt_of_lt_of_le hl ho.size, hn⟩
  ·rintro k X W b ⟨hc, h2, hx, hl, hn⟩ hb
   rcases (hx b).1 hb with rfl | rfl
   ·exact hl
   ·exact lt_heap h2
 case assign =>
  intro l k hk W K hK
  rw [show ((words s.data.toList).map str).getD k undef = ((words s.data.toList).map str)[k] by rw [List.getD_eq_getElem?_getD, List.getElem?_eq_getElem hk]; rfl] at hK
  generalize ((words s.data.toList).map str)[k] = x at *
  gi_wp2
  exact hK
 case body =>
  rintro l k hk X W ⟨h1, h2, hx, hn⟩
  have hk' : k < (words s.data.toList).length := by simpa using hk
  rw [show ((words s.data.toList).map str).getD k undef = str (words s.data.toList)[k] by rw [List.getD_eq_getElem?_getD, List.getElem?_eq_getElem hk]; simp]
  have hc := cell_of h1
  have hf := free_of h2 0
  have hc2 := cell_of h2
  obtain ⟨wk, hwk⟩ : ∃ wk, (words s.data.toList)[k] = wk := ⟨_, rfl⟩
  rw [hwk]
  unfold str
  have Hwk := Lib.hid hwk; have H1 := Lib.hid h1; have H2 := Lib.hid h2; have Hx := Lib.hid hx; have Hn := Lib.hid hn
  clear hwk h1 h2 hx hn
  gi_wp2
  ·have he : (wk == token.toList) = true := by assumption
   rw [Lib.toList_data] at he
   have hb1 : (W.setCell ⟨b0 + 1, 0, none⟩ (.bool true)).heap[b0 + 1]? = some (.cells #[.bool true] 4 (0, 0)) := set_one H2.out
   refine ⟨X, Grew.refl _ _, Off.setCell _ _ _ ((Hx.out _).2 (.inr rfl)), rfl, hb1, Hx.out, by have := lt_heap hb1; omega, ?_⟩
   rw [← eq_of_beq he, ← Hwk.out]
   exact List.getElem_mem _
  ·have he : (wk == token.toList) = false := by assumption
   rw [Lib.toList_data] at he
   refine ⟨X, Grew.refl _ _, Off.refl _ _, H1.out, H2.out, Hx.out, fun hm => ?_⟩
   rw [List.take_succ_eq_append_getElem hk', List.mem_append] at hm
   rcases hm with hm | hm
   ·exact Hn.out hm
   ·rw [List.mem_singleton, Hwk.out] at hm
    exact absurd hm.symm (by simpa using he)
 case done =>
  rintro D X' W hD hXD hgr hof ⟨h1, h2, hx, hn⟩ hK
  have hc2 := cell_of h2
  have hf := free_of h2 0
  have H2 := Lib.hid h2; have Hn := Lib.hid hn; have HK := Lib.hid hK; have Hof := Lib.hid hof
  clear h1 h2 hx hn hK hof hgr
  gi_wp2
  refine ⟨by simp, .inl ⟨_, _, rfl, run_takeDeferred ((set_other (by omega)).trans HK.out), ?_⟩⟩
  have hbF : ((W.setCell ⟨b0 + 1, 0, none⟩ (.bool false)).putObj D (.deferred none)).heap[b0 + 1]? = some (.cells #[.bool false] 4 (0, 0)) := (put_other (by omega)).trans (set_one H2.out)
  have hcF := cell_of hbF
  have hnot : (words s.data.toList).contains token.data.toList = false := by
   have := Hn.out
   rw [List.take_of_length_le (by simp)] at this
   simpa using this
  refine ⟨.bool false, by simp [results, Tryz.results124, hcF, go_sem], by rw [hnot], ?_⟩
  have b1 := (hbl.trans (Hof.out.toBelow (B := b0) (by omega) (fun b h => by omega))).setCell (p := ⟨b0 + 1, 0, none⟩) (by simp) (.bool false)
  have hB := Hb0.out
  rw [hB]
  exact b1.trans (Off.toBelow (Y := fun b => b = D) (Off.putObj _ _ _ rfl) (by have := b1.size; omega) (fun b h => by omega))
 case stop =>
  rintro D c k X' W hk hD hXD hgr hof ⟨rfl, h2, hx, hl, hn⟩ hK
  gi_wp2
  refine ⟨by simp, .inl ⟨_, _, rfl, run_takeDeferred hK, ?_⟩⟩
  have hbF : (W.putObj D (.deferred none)).heap[b0 + 1]? = some (.cells #[.bool true] 4 (0, 0)) := (put_other (by omega)).trans h2
  have hcF := cell_of hbF
  have hyes : (words s.data.toList).contains token.data.toList = true := by simpa using hn
  refine ⟨.bool true, by simp [results, Tryz.results124, hcF, go_sem], by rw [hyes], ?_⟩
  have b1 := hbl.trans (hof.toBelow (B := b0) (by omega) (fun b h => by omega))
  have hB := Hb0.out
  rw [hB]
  exact b1.trans (Off.toBelow (Y := fun b => b = D) (Off.putObj _ _ _ rfl) (by have := b1.size; omega) (fun b h => by omega))

end Go.Proofs.YtmbhkkophkccbaaGreat.WHas
end
section
namespace Go.Proofs.YtmbhkkophkccbaaGreat.Fn
open Go Go.RowKit Go.Proofs.YtmbhkkophkccbaaGreat.Seq WS FS Mem Rd Shapes Word FFam Work
set_option linter.unusedVariables false
set_option linter.unusedSimpArgs false
theorem attr1_calls (w : World) (nm : ByteArray) (bx : Nat) (hb : w.cell? ⟨bx, 0, none⟩ = some (.string nm)) (a : Av) :
  Calls Tryz.prog 191 #[.agg #[.string a.name, .string a.value], .pointer (some ⟨bx, 0, none⟩)] w fun e w' => e = .returned (.bool (decide (a.name = nm))) ∧ Below w.heap.size w w' := by
 obtain ⟨an, av⟩ := a
 simp only
 obtain ⟨w1, hw1⟩ : ∃ w1, w.alloc (.cells #[.string an, .string av] 112) = w1 := ⟨_, rfl⟩
 have hb1 : Below w.heap.size w w1 := by rw [← hw1]; exact (Below.refl _ _).alloc (Nat.le_refl _) _
 have p0 := cell_grow hb1 hb
 have q : w1.cell? ⟨w.heap.size, 0, none⟩ = some (.string an) := by rw [← hw1]; exact (cell_of_row _ _ _ _ _ _ (World.alloc_heap_new _ _)).trans rfl
 have Hb1 := Lib.hid hb1; have Hw1 := Lib.hid hw1
 clear hb1 hw1 hb
 go_enter Tryz.func191, Tryz.ntmps191
 go_upto_region 1 with fail
 rw [Hw1.out]
 go_wp2_with fail
 go_ret
 exact ⟨ret_bool (FSame.str_beq _ _), Hb1.out⟩
abbrev ndV (n : Nd) (va vk : Value) : Value := .agg #[.int .i64 n.kind, .string n.name, .string n.text, va, .int .i64 n.parent, vk]
abbrev ndC (n : Nd) (va vk : Value) : Array Value := #[.int .i64 n.kind, .string n.name, .string n.text, va, .int .i64 n.parent, vk]
def AtPost (l : List Av) (s : ByteArray) (w : World) (e : Ending) (w' : World) : Prop := e = .returned (.tuple #[.string ((valA l s).getD ⟨#[]⟩), .bool (valA l s).isSome]) ∧ Below w.heap.size w w'
theorem ret_sb {a c : ByteArray} {b d : Bool} (h : a = c) (k : b = d) : Ending.returned (.tuple #[.string a, .bool b]) = .returned (.tuple #[.string c, .bool d]) := by rw [h, k]
set_option maxRecDepth 100000 in
set_option maxHeartbeats 4000000 in
theorem attribute_calls (w : World) (n : Nd) (va vk : Value) (h : RdL attrE 2 w.heap.size w va n.attrs) (s : ByteArray) : Calls Tryz.prog 122 #[ndV n va vk, .string s] w (AtPost n.attrs s w) := by
 obtain ⟨w0, hw0⟩ : ∃ w0, w.alloc (.cells (ndC n va vk) 50) = w0 := ⟨_, rfl⟩
 have hb0 : Below w.heap.size w w0 := by rw [← hw0]; exact (Below.refl _ _).alloc (Nat.le_refl _) _
 have hs0 : w0.heap.size = w.heap.size + 1 := by rw [← hw0]; simp
 obtain ⟨w1, hw1⟩ : ∃ w1, w0.alloc (.cells #[.string s] 9) = w1 := ⟨_, rfl⟩
 have hb01 : Below w0.heap.size w0 w1 := by rw [← hw1]; exact (Below.refl _ _).alloc (Nat.le_refl _) _
 have hb1 : Below w.heap.size w w1 := bthen hb0 hb01
 have q0 : w0.heap[w.heap.size]? = some (.cells (ndC n va vk) 50 (0, 0)) := by rw [← hw0]; exact World.alloc_heap_new w _
 have q1 : w1.heap[w0.heap.size]? = some (.cells #[.string s] 9 (0, 0)) := by rw [← hw1]; exact World.alloc_heap_new w0 _
 rw [hs0] at q1
 have hcs := fun w' (hb : Below w1.heap.size w1 w') => (⟨(cell_of_row w' _ 3 _ _ _ ((hb.block _ (by have := hb01.size; omega)).trans ((hb01.block _ (by omega)).trans q0))).trans rfl, (cell_of_row w' _ 0 _ _ _ ((hb.block _ (lt_heap q1)).trans q1)).trans rfl⟩ : w'.cell? ⟨w.heap.size, 3, none⟩ = some va ∧ w'.cell? ⟨w.heap.size + 1, 0, none⟩ = some (.string s))
 have hr := fun w' (hb : Below w1.heap.size w1 w') => h.below attrE_keeps (w' := w') (bthen hb1 hb) (Nat.le_refl _)
 obtain ⟨Aa, ca, rfl, hl0, hc0, _⟩ := h.form
 simp only [maxLen] at hc0
 have hix := IndexAttr_calls w1 _ n.attrs ((hr w1 (Below.refl _ _)).mono attrE_keeps hb1.size) (fun a => decide (a.name = s)) (.pointer (some ⟨w.heap.size + 1, 0, none⟩)) (fun w' hb i hi => attr1_calls w' s (w.heap.size + 1) (hcs w' hb).2 n.attrs[i])
 have hfv := Wk.findV (l := n.attrs) (s := s)
 obtain ⟨p3, _⟩ := hcs w1 (Below.refl _ _)
 have HW0 := Lib.hid hw0; have HW1 := Lib.hid hw1; have Hb1 := Lib.hid hb1; have Hcs := Lib.hid hcs; have Hr := Lib.hid hr
 clear hw0 hw1 hb1 hcs hr h hb0 hb01 q0 q1 hs0
 unfold AtPost valA
 rw [hfv]
 cases hfa : findA n.attrs s with
 | none =>
  have hix0 : idxP n.attrs (fun a => decide (a.name = s)) = -1 := by unfold idxP; rw [show n.attrs.findIdx? (fun a => decide (a.name = s)) = none from hfa]
  rw [hix0] at hix
  have Hix := Lib.hid hix
  clear hix hfv hfa hix0
  go_enter Tryz.func122, Tryz.ntmps122
  go_upto_region 1 with fail
  try rw [HW0.out]
  try rw [HW1.out]
  go_wp2_with (go_at_call 138; ((with_reducible refine (Hix.out).mono ?_); rintro e w6 ⟨rfl, hb6⟩; have Hb6 := Lib.hid hb6; clear hb6))
  go_ret2
  exact ⟨rfl, bthen Hb1.out Hb6.out⟩
 | some j =>
  have hix0 : idxP n.attrs (fun a => decide (a.name = s)) = (j : Int) := by unfold idxP; rw [show n.attrs.findIdx? (fun a => decide (a.name = s)) = some j from hfa]
  rw [hix0] at hix
  obtain ⟨hj, hjn⟩ := findA_some hfa
  simp only [List.getElem?_eq_getElem hj, Option.map_some]
  have hat := fun w' (hb : Below w1.heap.size w1 w') => FAttr.attr_at (Hr.out w' hb) hj
  obtain ⟨b2, o2, rfl, _, _, _, _, _⟩ := hat w1 (Below.refl _ _)
  have hat2 : ∀ w', Below w1.heap.size w1 w' → w'.cell? ⟨b2, o2 + j * 2 + 1, none⟩ = some (.string n.attrs[j].value) := fun w' hb => by
   obtain ⟨b3, o3, e3, _, _, q, _, _⟩ := hat w' hb
   injection e3 with e3
   injection e3 with e3 e4 _
   rw [e3, e4]
   exact q
  have hj0 : decide ((j : Int) < 0) = false := by simp
  have hjl : (j : Int) < (n.attrs.length : Int) := by omega
  have Hix := Lib.hid hix; have Hat := Lib.hid hat2
  clear hix hfv hfa hix0 hat hat2 hjn
  generalize n.attrs[j].value = vv at *
  go_enter Tryz.func122, Tryz.ntmps122
  go_upto_region 1 with fail
  try rw [HW0.out]
  try rw [HW1.out]
  go_wp2_with (go_at_call 138; ((with_reducible refine (Hix.out).mono ?_); rintro e w6 ⟨rfl, hb6⟩; have p6 := Hat.out _ hb6; have p7 := (Hcs.out _ hb6).1; have Hb6 := Lib.hid hb6; clear hb6))
  go_ret2
  exact ⟨rfl, bthen Hb1.out Hb6.out⟩
end Go.Proofs.YtmbhkkophkccbaaGreat.Fn
end
section
namespace Go.Proofs.YtmbhkkophkccbaaGreat.Fn
open Go Go.RowKit Go.Proofs.YtmbhkkophkccbaaGreat.Seq WS FS Mem Rd Shapes Word FFam Work
set_option linter.unusedVariables false
set_option linter.unusedSimpArgs false
abbrev tsC (t : Tst) : Array Value := #[.int .i64 t.kind, .string t.name, .string t.value]
abbrev tsV (t : Tst) : Value := .agg #[.int .i64 t.kind, .string t.name, .string t.value]
def Sm (n : Nd) : Prop := n.name.size ≤ 1000 ∧ ∀ a ∈ n.attrs, a.value.size ≤ 1000
structure SoW (n : Nd) (t : Tst) (va vk : Value) (bn bt : Nat) (w : World) : Prop where
 nd : w.heap[bn]? = some (.cells (ndC n va vk) 50 (0, 0))
 ts : w.heap[bt]? = some (.cells (tsC t) 106 (0, 0))
 rd : RdL attrE 2 w.heap.size w va n.attrs
 sm : Sm n
 st : t.name.size ≤ 1000
theorem SoW.below {n : Nd} {t : Tst} {va vk : Value} {bn bt : Nat} {w w' : World} (h : SoW n t va vk bn bt w) (hb : Below w.heap.size w w') : SoW n t va vk bn bt w' :=
 ⟨(hb.block _ (lt_heap h.nd)).trans h.nd, (hb.block _ (lt_heap h.ts)).trans h.ts, (h.rd.below attrE_keeps hb (Nat.le_refl _)).mono attrE_keeps hb.size, h.sm, h.st⟩
theorem SoW.cells {n : Nd} {t : Tst} {va vk : Value} {bn bt : Nat} {w : World} (h : SoW n t va vk bn bt w) : (w.cell? ⟨bn, 0, none⟩ = some (.int .i64 n.kind) ∧ w.cell? ⟨bn, 1, none⟩ = some (.string n.name) ∧ w.cell? ⟨bn, 2, none⟩ = some (.string n.text) ∧ w.cell? ⟨bn, 3, none⟩ = some va ∧ w.cell? ⟨bn, 4, none⟩ = some (.int .i64 n.parent) ∧ w.cell? ⟨bn, 5, none⟩ = some vk) ∧ (w.cell? ⟨bt, 0, none⟩ = some (.int .i64 t.kind) ∧ w.cell? ⟨bt, 1, none⟩ = some (.string t.name) ∧ w.cell? ⟨bt, 2, none⟩ = some (.string t.value)) :=
 ⟨⟨(cell_of_row _ _ _ _ _ _ h.nd).trans rfl, (cell_of_row _ _ _ _ _ _ h.nd).trans rfl, (cell_of_row _ _ _ _ _ _ h.nd).trans rfl, (cell_of_row _ _ _ _ _ _ h.nd).trans rfl, (cell_of_row _ _ _ _ _ _ h.nd).trans rfl, (cell_of_row _ _ _ _ _ _ h.nd).trans rfl⟩, ⟨(cell_of_row _ _ _ _ _ _ h.ts).trans rfl, (cell_of_row _ _ _ _ _ _ h.ts).trans rfl, (cell_of_row _ _ _ _ _ _ h.ts).trans rfl⟩⟩
def SoPost (b : Bool) (w : World) (e : Ending) (w' : World) : Prop := e = .returned (.bool b) ∧ Below w.heap.size w w'
theorem valA_mem {l : List Av} {s v : ByteArray} (h : valA l s = some v) : ∃ a ∈ l, a.value = v := by
 unfold valA at h
 cases hf : l.find? (fun a => decide (a.name = s)) with
 | none => rw [hf] at h; cases h
 | some a => rw [hf] at h; injection h with h; exact ⟨a, List.mem_of_find?_eq_some hf, h⟩
theorem opt_bool {o : Option ByteArray} {v : ByteArray} (h : o = some v) (x : ByteArray) : decide (o = some x) = decide (v = x) := by
 subst h
 by_cases e : v = x
 ·rw [decide_eq_true (by rw [e]), decide_eq_true e]
 ·rw [decide_eq_false (by intro e2; injection e2 with e2; exact e e2), decide_eq_false e]
theorem store_nilF (w : World) (a : Addr) (m : Mode) : (store a .nilFunc m).run Tryz.prog w = stored Tryz.prog w a .nilFunc m := run_store _ w a _ m rfl
set_option maxRecDepth 100000 in
set_option maxHeartbeats 4000000 in
theorem so1_calls (w : World) (n : Nd) (t : Tst) (va vk : Value) (bn bt : Nat) (h : SoW n t va vk bn bt w) (hk : t.kind = 1) : Calls Tryz.prog 119 #[.pointer (some ⟨bn, 0, none⟩), .pointer (some ⟨bt, 0, none⟩)] w (SoPost (soB n t) w) := by
 have hb : soB n t = decide (n.name.data.map foldB = t.name.data.map foldB) := by unfold soB; rw [if_pos hk]
 rw [hb]
 have h1 : n.name.size < 4294967281 := by have := h.sm.1; omega
 have h2 : t.name.size < 4294967281 := by have := h.st; omega
 have hc := fun w' (hb' : Below w.heap.size w w') => (⟨(h.below hb').cells.1.2.1, (h.below hb').cells.2.2.1⟩ : w'.cell? ⟨bn, 1, none⟩ = some (.string n.name) ∧ w'.cell? ⟨bt, 1, none⟩ = some (.string t.name))
 obtain ⟨c1, c2⟩ := hc w (Below.refl _ _)
 have Hs1 := Lib.hid h1; have Hs2 := Lib.hid h2; have Hc := Lib.hid hc
 clear h1 h2 hc h hb hk
 have hfin : ∀ x y : Array UInt8, Ending.returned (.bool ((ByteArray.mk x).toList == (ByteArray.mk y).toList)) = .returned (.bool (decide (x = y))) := fun x y => by
  refine ret_bool ((FSame.str_beq _ _).trans ?_)
  by_cases e : x = y
  ·rw [decide_eq_true (by rw [e]), decide_eq_true e]
  ·rw [decide_eq_false (by intro e2; injection e2 with e2; exact e e2), decide_eq_false e]
 have Hf := Lib.hid hfin
 clear hfin
 generalize n.name = s1 at *
 generalize t.name = s2 at *
 go_enter Tryz.func119, Tryz.ntmps119
 go_upto_region 1 with fail
 refine wp_region_held_drew (S := (fun w' => w'.cell? ⟨bn, 1, none⟩ = some (.string s1) ∧ w'.cell? ⟨bt, 1, none⟩ = some (.string s2))) (by kernel_rfl) ⟨c1, c2⟩ (fun hHeld => ?_)
 refine' wpAnyH_take (i := 0) (v := ?v0) rfl (by kernel_rfl) (by kernel_rfl) (by kernel_rfl) (fun _ _ _ h => h) (Or.inl ⟨by rfl, ?hy0⟩) (by assumption) ?rest0
 case hy0 => (intro w hSw; (try dsimp only at hSw); go_simp; (try with_reducible rfl))
 (try simp only [Act.put, List.setIfInBounds_toArray, List.set_cons_zero, List.set_cons_succ])
 refine' wpAnyH_take (i := 1) (v := ?v1) rfl (by kernel_rfl) (by kernel_rfl) (by kernel_rfl) (fun _ _ _ h => h) (Or.inl ⟨by rfl, ?hy1⟩) (by assumption) ?rest1
 case hy1 => (intro w hSw; (try dsimp only at hSw); go_simp; (try with_reducible rfl))
 (try simp only [Act.put, List.setIfInBounds_toArray, List.set_cons_zero, List.set_cons_succ])
 refine' wpAnyH_take (i := 3) (v := ?v3) rfl (by kernel_rfl) (by kernel_rfl) (by kernel_rfl) (fun _ _ _ h => h) (Or.inl ⟨by rfl, ?hy3⟩) (by assumption) ?rest3
 case hy3 => (intro w hSw; (try dsimp only at hSw); go_simp; (try with_reducible rfl))
 (try simp only [Act.put, List.setIfInBounds_toArray, List.set_cons_zero, List.set_cons_succ])
 refine' wpAnyH_take (i := 4) (v := ?v4) rfl (by kernel_rfl) (by kernel_rfl) (by kernel_rfl) (fun _ _ _ h => h) (Or.inl ⟨by rfl, ?hy4⟩) (by assumption) ?rest4
 case hy4 => (intro w hSw; (try dsimp only at hSw); go_simp; (try with_reducible rfl))
 (try simp only [Act.put, List.setIfInBounds_toArray, List.set_cons_zero, List.set_cons_succ])
 refine wpAnyH_ready (rs := [2]) (by kernel_rfl) (by simp) ?_
 refine AllReadyH.cons rfl (fun K hK => ?_) AllReadyH.nil
 go_simp
 go_at_call 120
 refine (Word.Fold_calls _ Hs1.out _).mono ?_
 rintro e w5 ⟨rfl, b5⟩
 have hx : Below w.heap.size w w5 := (Below.refl _ w).drew.trans b5
 have y5 := Hc.out _ hx
 have Hb5 := Lib.hid hx
 clear b5 hx
 go_simp
 refine hK.out _ _ y5 (fun hHeld => ?_)
 clear hK K
 (try simp only [Act.put, List.setIfInBounds_toArray, List.set_cons_zero, List.set_cons_succ])
 refine wpAnyH_ready (rs := [5]) (by kernel_rfl) (by simp) ?_
 refine AllReadyH.cons rfl (fun K hK => ?_) AllReadyH.nil
 go_simp
 go_at_call 120
 refine (Word.Fold_calls _ Hs2.out _).mono ?_
 rintro e w6 ⟨rfl, b6⟩
 have hx : Below w.heap.size w w6 := bthen Hb5.out b6
 have y5 := Hc.out _ hx
 have Hb6 := Lib.hid hx
 clear b6 hx
 go_simp
 refine hK.out _ _ y5 (fun hHeld => ?_)
 clear hK K
 (try simp only [Act.put, List.setIfInBounds_toArray, List.set_cons_zero, List.set_cons_succ])
 refine' wpAnyH_take (i := 6) (v := ?va6) rfl (by kernel_rfl) (by kernel_rfl) (by kernel_rfl) (fun _ _ _ h => h) (Or.inl ⟨by rfl, ?hya6⟩) (by assumption) ?resta6
 case hya6 => (intro w hSw; (try dsimp only at hSw); go_simp; (try with_reducible rfl))
 (try simp only [Act.put, List.setIfInBounds_toArray, List.set_cons_zero, List.set_cons_succ])
 refine' wpAnyH_take (i := 7) (v := ?va7) rfl (by kernel_rfl) (by kernel_rfl) (by kernel_rfl) (fun _ _ _ h => h) (Or.inl ⟨by rfl, ?hya7⟩) (by assumption) ?resta7
 case hya7 => (intro w hSw; (try dsimp only at hSw); go_simp; (try with_reducible rfl))
 (try simp only [Act.put, List.setIfInBounds_toArray, List.set_cons_zero, List.set_cons_succ])
 refine wpAnyH_done (by kernel_rfl) ?_ _
 go_simp
 go_wp2_with fail
 go_ret
 exact ⟨Hf.out _ _, Hb6.out⟩
theorem so2_calls (w : World) (n : Nd) (t : Tst) (va vk : Value) (bn bt : Nat) (h : SoW n t va vk bn bt w) (hk : t.kind = 2) : Calls Tryz.prog 121 #[.pointer (some ⟨bn, 0, none⟩), .pointer (some ⟨bt, 0, none⟩)] w (SoPost (soB n t) w) := by
 have hat := attribute_calls w n va vk h.rd idS
 unfold AtPost at hat
 have hc := fun w' (hb' : Below w.heap.size w w') => (h.below hb').cells
 obtain ⟨⟨c0, c1, c2, c3, c4, c5⟩, ⟨d0, d1, d2⟩⟩ := hc w (Below.refl _ _)
 obtain ⟨Aa, ca, rfl, _, _, _⟩ := h.rd.form
 cases hv : valA n.attrs idS with
 | none =>
  have hs : soB n t = false := by unfold soB; rw [if_neg (by rw [hk]; decide)]; rw [if_pos hk]; rw [hv] <;> rfl
  rw [hs]
  rw [hv] at hat
  have Hat := Lib.hid hat; have Hc := Lib.hid hc
  clear hat hc hs hv h
  go_enter Tryz.func121, Tryz.ntmps121
  go_wp2_with (go_at_call 122; (with_reducible refine (Hat.out).mono ?_); rintro e w5 ⟨rfl, hb5⟩; obtain ⟨⟨e0, e1, e2, e3, e4, e5⟩, ⟨f0, f1, f2⟩⟩ := Hc.out _ hb5; have Hb5 := Lib.hid hb5; clear hb5)
  go_ret
  exact ⟨rfl, Hb5.out⟩
 | some v =>
  have hs : soB n t = decide (v = t.name) := by unfold soB; rw [if_neg (by rw [hk]; decide)]; rw [if_pos hk]; exact opt_bool hv _
  rw [hs]
  rw [hv] at hat
  have Hat := Lib.hid hat; have Hc := Lib.hid hc
  clear hat hc hs hv h
  go_enter Tryz.func121, Tryz.ntmps121
  go_wp2_with (first | (go_at_call 122; (with_reducible refine (Hat.out).mono ?_); rintro e w5 ⟨rfl, hb5⟩; obtain ⟨⟨e0, e1, e2, e3, e4, e5⟩, ⟨f0, f1, f2⟩⟩ := Hc.out _ hb5; have Hb5 := Lib.hid hb5; clear hb5))
  go_ret
  exact ⟨ret_bool (FSame.str_beq _ _), Hb5.out⟩
theorem so3_calls (w : World) (n : Nd) (t : Tst) (va vk : Value) (bn bt : Nat) (h : SoW n t va vk bn bt w) (hk : t.kind = 3) : Calls Tryz.prog 123 #[.pointer (some ⟨bn, 0, none⟩), .pointer (some ⟨bt, 0, none⟩)] w (SoPost (soB n t) w) := by
 have hat := attribute_calls w n va vk h.rd classS
 unfold AtPost at hat
 have hc := fun w' (hb' : Below w.heap.size w w') => (h.below hb').cells
 obtain ⟨⟨c0, c1, c2, c3, c4, c5⟩, ⟨d0, d1, d2⟩⟩ := hc w (Below.refl _ _)
 obtain ⟨Aa, ca, rfl, _, _, _⟩ := h.rd.form
 cases hv : valA n.attrs classS with
 | none =>
  have hs : soB n t = false := by unfold soB; rw [if_neg (by rw [hk]; decide)]; rw [if_neg (by rw [hk]; decide)]; rw [if_pos hk]; rw [hv] <;> rfl
  rw [hs]
  rw [hv] at hat
  have Hat := Lib.hid hat; have Hc := Lib.hid hc
  clear hat hc hs hv h
  go_enter Tryz.func123, Tryz.ntmps123
  go_wp2_with (go_at_call 122; (with_reducible refine (Hat.out).mono ?_); rintro e w5 ⟨rfl, hb5⟩; obtain ⟨⟨e0, e1, e2, e3, e4, e5⟩, ⟨f0, f1, f2⟩⟩ := Hc.out _ hb5; have Hb5 := Lib.hid hb5; clear hb5)
  go_ret
  exact ⟨rfl, Hb5.out⟩
 | some v =>
  have hs : soB n t = (words v.data.toList).contains t.name.data.toList := by unfold soB; rw [if_neg (by rw [hk]; decide)]; rw [if_neg (by rw [hk]; decide)]; rw [if_pos hk]; rw [hv]
  rw [hs]
  rw [hv] at hat
  obtain ⟨a, ha, hav⟩ := valA_mem hv
  have hvs := h.sm.2 a ha
  rw [hav] at hvs
  have hh := fun w' => WHas.Has_calls v t.name (by omega) w'
  generalize (words v.data.toList).contains t.name.data.toList = bb at hh ⊢
  have Hh := Lib.hid hh
  clear hh ha hav hvs
  have Hat := Lib.hid hat; have Hc := Lib.hid hc
  clear hat hc hs hv h
  go_enter Tryz.func123, Tryz.ntmps123
  go_wp2_with (first | (go_at_call 122; (with_reducible refine (Hat.out).mono ?_); rintro e w5 ⟨rfl, hb5⟩; obtain ⟨⟨e0, e1, e2, e3, e4, e5⟩, ⟨f0, f1, f2⟩⟩ := Hc.out _ hb5; have Hb5 := Lib.hid hb5; clear hb5) | (go_at_call 124; (with_reducible refine (Hh.out _).mono ?_); rintro e w6 ⟨rfl, hb6⟩; have Hb6 := Lib.hid hb6; clear hb6))
  go_ret
  exact ⟨rfl, bthen Hb5.out Hb6.out⟩
theorem so4_calls (w : World) (n : Nd) (t : Tst) (va vk : Value) (bn bt : Nat) (h : SoW n t va vk bn bt w) (hk : t.kind = 4) : Calls Tryz.prog 125 #[.pointer (some ⟨bn, 0, none⟩), .pointer (some ⟨bt, 0, none⟩)] w (SoPost (soB n t) w) := by
 have hat := attribute_calls w n va vk h.rd t.name
 unfold AtPost at hat
 have hc := fun w' (hb' : Below w.heap.size w w') => (h.below hb').cells
 obtain ⟨⟨c0, c1, c2, c3, c4, c5⟩, ⟨d0, d1, d2⟩⟩ := hc w (Below.refl _ _)
 obtain ⟨Aa, ca, rfl, _, _, _⟩ := h.rd.form
 cases hv : valA n.attrs t.name with
 | none =>
  have hs : soB n t = false := by unfold soB; rw [if_neg (by rw [hk]; decide)]; rw [if_neg (by rw [hk]; decide)]; rw [if_neg (by rw [hk]; decide)]; rw [if_pos hk]; rw [hv] <;> rfl
  rw [hs]
  rw [hv] at hat
  have Hat := Lib.hid hat; have Hc := Lib.hid hc
  clear hat hc hs hv h
  go_enter Tryz.func125, Tryz.ntmps125
  go_wp2_with (go_at_call 122; (with_reducible refine (Hat.out).mono ?_); rintro e w5 ⟨rfl, hb5⟩; obtain ⟨⟨e0, e1, e2, e3, e4, e5⟩, ⟨f0, f1, f2⟩⟩ := Hc.out _ hb5; have Hb5 := Lib.hid hb5; clear hb5)
  go_ret
  exact ⟨rfl, Hb5.out⟩
 | some v =>
  have hs : soB n t = true := by unfold soB; rw [if_neg (by rw [hk]; decide)]; rw [if_neg (by rw [hk]; decide)]; rw [if_neg (by rw [hk]; decide)]; rw [if_pos hk]; rw [hv]; rfl
  rw [hs]
  rw [hv] at hat
  have Hat := Lib.hid hat; have Hc := Lib.hid hc
  clear hat hc hs hv h
  go_enter Tryz.func125, Tryz.ntmps125
  go_wp2_with (first | (go_at_call 122; (with_reducible refine (Hat.out).mono ?_); rintro e w5 ⟨rfl, hb5⟩; obtain ⟨⟨e0, e1, e2, e3, e4, e5⟩, ⟨f0, f1, f2⟩⟩ := Hc.out _ hb5; have Hb5 := Lib.hid hb5; clear hb5))
  go_ret
  exact ⟨rfl, Hb5.out⟩
theorem so5_calls (w : World) (n : Nd) (t : Tst) (va vk : Value) (bn bt : Nat) (h : SoW n t va vk bn bt w) (hk : t.kind = 5) : Calls Tryz.prog 126 #[.pointer (some ⟨bn, 0, none⟩), .pointer (some ⟨bt, 0, none⟩)] w (SoPost (soB n t) w) := by
 have hat := attribute_calls w n va vk h.rd t.name
 unfold AtPost at hat
 have hc := fun w' (hb' : Below w.heap.size w w') => (h.below hb').cells
 obtain ⟨⟨c0, c1, c2, c3, c4, c5⟩, ⟨d0, d1, d2⟩⟩ := hc w (Below.refl _ _)
 obtain ⟨Aa, ca, rfl, _, _, _⟩ := h.rd.form
 cases hv : valA n.attrs t.name with
 | none =>
  have hs : soB n t = false := by unfold soB; rw [if_neg (by rw [hk]; decide)]; rw [if_neg (by rw [hk]; decide)]; rw [if_neg (by rw [hk]; decide)]; rw [if_neg (by rw [hk]; decide)]; rw [if_pos hk]; rw [hv] <;> rfl
  rw [hs]
  rw [hv] at hat
  have Hat := Lib.hid hat; have Hc := Lib.hid hc
  clear hat hc hs hv h
  go_enter Tryz.func126, Tryz.ntmps126
  go_wp2_with (go_at_call 122; (with_reducible refine (Hat.out).mono ?_); rintro e w5 ⟨rfl, hb5⟩; obtain ⟨⟨e0, e1, e2, e3, e4, e5⟩, ⟨f0, f1, f2⟩⟩ := Hc.out _ hb5; have Hb5 := Lib.hid hb5; clear hb5)
  go_ret
  exact ⟨rfl, Hb5.out⟩
 | some v =>
  have hs : soB n t = decide (v = t.value) := by unfold soB; rw [if_neg (by rw [hk]; decide)]; rw [if_neg (by rw [hk]; decide)]; rw [if_neg (by rw [hk]; decide)]; rw [if_neg (by rw [hk]; decide)]; rw [if_pos hk]; exact opt_bool hv _
  rw [hs]
  rw [hv] at hat
  have Hat := Lib.hid hat; have Hc := Lib.hid hc
  clear hat hc hs hv h
  go_enter Tryz.func126, Tryz.ntmps126
  go_wp2_with (first | (go_at_call 122; (with_reducible refine (Hat.out).mono ?_); rintro e w5 ⟨rfl, hb5⟩; obtain ⟨⟨e0, e1, e2, e3, e4, e5⟩, ⟨f0, f1, f2⟩⟩ := Hc.out _ hb5; have Hb5 := Lib.hid hb5; clear hb5))
  go_ret
  exact ⟨ret_bool (FSame.str_beq _ _), Hb5.out⟩
abbrev fnRow (B : Nat) : Array Value := #[.nilFunc, .func (.func 119) #[] #[.pointer (some ⟨B, 0, none⟩), .pointer (some ⟨B + 1, 0, none⟩)], .func (.func 121) #[] #[.pointer (some ⟨B, 0, none⟩), .pointer (some ⟨B + 1, 0, none⟩)], .func (.func 123) #[] #[.pointer (some ⟨B, 0, none⟩), .pointer (some ⟨B + 1, 0, none⟩)], .func (.func 125) #[] #[.pointer (some ⟨B, 0, none⟩), .pointer (some ⟨B + 1, 0, none⟩)], .func (.func 126) #[] #[.pointer (some ⟨B, 0, none⟩), .pointer (some ⟨B + 1, 0, none⟩)]]
theorem fn_cells {w : World} {b B : Nat} {T : TypeId} (h : w.heap[b]? = some (.cells (fnRow B) T (0, 0))) : w.cell? ⟨b, 0, none⟩ = some .nilFunc ∧ w.cell? ⟨b, 1, none⟩ = (fnRow B)[1]? ∧ w.cell? ⟨b, 2, none⟩ = (fnRow B)[2]? ∧ w.cell? ⟨b, 3, none⟩ = (fnRow B)[3]? ∧ w.cell? ⟨b, 4, none⟩ = (fnRow B)[4]? ∧ w.cell? ⟨b, 5, none⟩ = (fnRow B)[5]? :=
 ⟨(cell_of_row _ _ _ _ _ _ h).trans rfl, (cell_of_row _ _ _ _ _ _ h), (cell_of_row _ _ _ _ _ _ h), (cell_of_row _ _ _ _ _ _ h), (cell_of_row _ _ _ _ _ _ h), (cell_of_row _ _ _ _ _ _ h)⟩
set_option maxRecDepth 100000 in
set_option maxHeartbeats 4000000 in
theorem so_calls (w : World) (n : Nd) (t : Tst) (va vk : Value) (h : RdL attrE 2 w.heap.size w va n.attrs) (hn : Sm n) (ht : t.name.size ≤ 1000) : Calls Tryz.prog 57 #[ndV n va vk, tsV t] w (SoPost (soB n t) w) := by
 obtain ⟨w0, hw0⟩ : ∃ w0, (w.alloc (.cells (ndC n va vk) 50)).alloc (.cells (tsC t) 106) = w0 := ⟨_, rfl⟩
 have hb0 : Below w.heap.size w w0 := by rw [← hw0]; exact ((Below.refl _ _).alloc (Nat.le_refl _) _).alloc (by simp) _
 have q0 : w0.heap[w.heap.size]? = some (.cells (ndC n va vk) 50 (0, 0)) := by rw [← hw0]; exact heap_old (World.alloc_heap_new w _)
 have q1 : w0.heap[w.heap.size + 1]? = some (.cells (tsC t) 106 (0, 0)) := by rw [← hw0]; exact heap_new (by simp)
 have hso : SoW n t va vk w.heap.size (w.heap.size + 1) w0 := ⟨q0, q1, (h.below attrE_keeps hb0 (Nat.le_refl _)).mono attrE_keeps hb0.size, hn, ht⟩
 have hs0 : w0.heap.size = w.heap.size + 2 := by rw [← hw0]; simp
 have hcl := fun w' (hb : Below w0.heap.size w0 w') => (hso.below hb).cells.2.1
 obtain ⟨Aa, ca, rfl, _, _, _⟩ := h.form
 have c0 := hcl w0 (Below.refl _ _)
 have hsf := Doings.store_func
 have hsn := store_nilF
 have Hw0 := Lib.hid hw0; have Hb0 := Lib.hid hb0; have Hso := Lib.hid hso; have Hcl := Lib.hid hcl
 clear hw0 hb0 q0 q1 hso hs0 hcl h hn ht
 by_cases hk : 0 < t.kind ∧ t.kind < 6
 ·have hks : t.kind = 1 ∨ t.kind = 2 ∨ t.kind = 3 ∨ t.kind = 4 ∨ t.kind = 5 := by omega
  clear hk
  rcases hks with hk | hk | hk | hk | hk
  ·have hc := fun w' (hb : Below w0.heap.size w0 w') => so1_calls w' n t _ vk _ _ (Hso.out.below hb) hk
   rw [hk] at c0
   have Hc := Lib.hid hc; have Hk := Lib.hid hk
   clear hc hk
   go_enter Tryz.func57, Tryz.ntmps57
   go_upto_region 1 with fail
   rw [Hw0.out]
   go_upto_region 2 with fail
   obtain ⟨w1, hw1⟩ : ∃ w1, w0.alloc (.cells (fnRow w.heap.size) 201) = w1 := ⟨_, rfl⟩
   have hb1 : Below w0.heap.size w0 w1 := by rw [← hw1]; exact (Below.refl _ _).alloc (Nat.le_refl _) _
   have q := fn_cells (w := w1) (b := w0.heap.size) (B := w.heap.size) (by rw [← hw1]; exact World.alloc_heap_new w0 _)
   obtain ⟨q0, q1, q2, q3, q4, q5⟩ := q
   have d0 := Hcl.out w1 hb1
   rw [Hk.out] at d0
   rw [hw1]
   have Hb1 := Lib.hid hb1
   clear hw1 hb1 c0
   go_wp2_with (go_at_call 119; (with_reducible refine (Hc.out _ Hb1.out).mono ?_); rintro e w2 ⟨rfl, hb2⟩; have Hb2 := Lib.hid hb2; clear hb2)
   go_ret
   exact ⟨rfl, bthen Hb0.out (bthen Hb1.out Hb2.out)⟩
  ·have hc := fun w' (hb : Below w0.heap.size w0 w') => so2_calls w' n t _ vk _ _ (Hso.out.below hb) hk
   rw [hk] at c0
   have Hc := Lib.hid hc; have Hk := Lib.hid hk
   clear hc hk
   go_enter Tryz.func57, Tryz.ntmps57
   go_upto_region 1 with fail
   rw [Hw0.out]
   go_upto_region 2 with fail
   obtain ⟨w1, hw1⟩ : ∃ w1, w0.alloc (.cells (fnRow w.heap.size) 201) = w1 := ⟨_, rfl⟩
   have hb1 : Below w0.heap.size w0 w1 := by rw [← hw1]; exact (Below.refl _ _).alloc (Nat.le_refl _) _
   have q := fn_cells (w := w1) (b := w0.heap.size) (B := w.heap.size) (by rw [← hw1]; exact World.alloc_heap_new w0 _)
   obtain ⟨q0, q1, q2, q3, q4, q5⟩ := q
   have d0 := Hcl.out w1 hb1
   rw [Hk.out] at d0
   rw [hw1]
   have Hb1 := Lib.hid hb1
   clear hw1 hb1 c0
   go_wp2_with (go_at_call 121; (with_reducible refine (Hc.out _ Hb1.out).mono ?_); rintro e w2 ⟨rfl, hb2⟩; have Hb2 := Lib.hid hb2; clear hb2)
   go_ret
   exact ⟨rfl, bthen Hb0.out (bthen Hb1.out Hb2.out)⟩
  ·have hc := fun w' (hb : Below w0.heap.size w0 w') => so3_calls w' n t _ vk _ _ (Hso.out.below hb) hk
   rw [hk] at c0
   have Hc := Lib.hid hc; have Hk := Lib.hid hk
   clear hc hk
   go_enter Tryz.func57, Tryz.ntmps57
   go_upto_region 1 with fail
   rw [Hw0.out]
   go_upto_region 2 with fail
   obtain ⟨w1, hw1⟩ : ∃ w1, w0.alloc (.cells (fnRow w.heap.size) 201) = w1 := ⟨_, rfl⟩
   have hb1 : Below w0.heap.size w0 w1 := by rw [← hw1]; exact (Below.refl _ _).alloc (Nat.le_refl _) _
   have q := fn_cells (w := w1) (b := w0.heap.size) (B := w.heap.size) (by rw [← hw1]; exact World.alloc_heap_new w0 _)
   obtain ⟨q0, q1, q2, q3, q4, q5⟩ := q
   have d0 := Hcl.out w1 hb1
   rw [Hk.out] at d0
   rw [hw1]
   have Hb1 := Lib.hid hb1
   clear hw1 hb1 c0
   go_wp2_with (go_at_call 123; (with_reducible refine (Hc.out _ Hb1.out).mono ?_); rintro e w2 ⟨rfl, hb2⟩; have Hb2 := Lib.hid hb2; clear hb2)
   go_ret
   exact ⟨rfl, bthen Hb0.out (bthen Hb1.out Hb2.out)⟩
  ·have hc := fun w' (hb : Below w0.heap.size w0 w') => so4_calls w' n t _ vk _ _ (Hso.out.below hb) hk
   rw [hk] at c0
   have Hc := Lib.hid hc; have Hk := Lib.hid hk
   clear hc hk
   go_enter Tryz.func57, Tryz.ntmps57
   go_upto_region 1 with fail
   rw [Hw0.out]
   go_upto_region 2 with fail
   obtain ⟨w1, hw1⟩ : ∃ w1, w0.alloc (.cells (fnRow w.heap.size) 201) = w1 := ⟨_, rfl⟩
   have hb1 : Below w0.heap.size w0 w1 := by rw [← hw1]; exact (Below.refl _ _).alloc (Nat.le_refl _) _
   have q := fn_cells (w := w1) (b := w0.heap.size) (B := w.heap.size) (by rw [← hw1]; exact World.alloc_heap_new w0 _)
   obtain ⟨q0, q1, q2, q3, q4, q5⟩ := q
   have d0 := Hcl.out w1 hb1
   rw [Hk.out] at d0
   rw [hw1]
   have Hb1 := Lib.hid hb1
   clear hw1 hb1 c0
   go_wp2_with (go_at_call 125; (with_reducible refine (Hc.out _ Hb1.out).mono ?_); rintro e w2 ⟨rfl, hb2⟩; have Hb2 := Lib.hid hb2; clear hb2)
   go_ret
   exact ⟨rfl, bthen Hb0.out (bthen Hb1.out Hb2.out)⟩
  ·have hc := fun w' (hb : Below w0.heap.size w0 w') => so5_calls w' n t _ vk _ _ (Hso.out.below hb) hk
   rw [hk] at c0
   have Hc := Lib.hid hc; have Hk := Lib.hid hk
   clear hc hk
   go_enter Tryz.func57, Tryz.ntmps57
   go_upto_region 1 with fail
   rw [Hw0.out]
   go_upto_region 2 with fail
   obtain ⟨w1, hw1⟩ : ∃ w1, w0.alloc (.cells (fnRow w.heap.size) 201) = w1 := ⟨_, rfl⟩
   have hb1 : Below w0.heap.size w0 w1 := by rw [← hw1]; exact (Below.refl _ _).alloc (Nat.le_refl _) _
   have q := fn_cells (w := w1) (b := w0.heap.size) (B := w.heap.size) (by rw [← hw1]; exact World.alloc_heap_new w0 _)
   obtain ⟨q0, q1, q2, q3, q4, q5⟩ := q
   have d0 := Hcl.out w1 hb1
   rw [Hk.out] at d0
   rw [hw1]
   have Hb1 := Lib.hid hb1
   clear hw1 hb1 c0
   go_wp2_with (go_at_call 126; (with_reducible refine (Hc.out _ Hb1.out).mono ?_); rintro e w2 ⟨rfl, hb2⟩; have Hb2 := Lib.hid hb2; clear hb2)
   go_ret
   exact ⟨rfl, bthen Hb0.out (bthen Hb1.out Hb2.out)⟩
 ·have hs : soB n t = false := by
   unfold soB
   rw [if_neg (by omega), if_neg (by omega), if_neg (by omega), if_neg (by omega), if_neg (by omega)]
  rw [hs]
  clear hs
  by_cases h0 : 0 < t.kind
  ·have h1 : ¬ t.kind < 6 := by omega
   clear hk
   go_enter Tryz.func57, Tryz.ntmps57
   go_upto_region 1 with fail
   rw [Hw0.out]
   go_upto_region 2 with fail
   obtain ⟨w1, hw1⟩ : ∃ w1, w0.alloc (.cells (fnRow w.heap.size) 201) = w1 := ⟨_, rfl⟩
   have hb1 : Below w0.heap.size w0 w1 := by rw [← hw1]; exact (Below.refl _ _).alloc (Nat.le_refl _) _
   have d0 := Hcl.out w1 hb1
   rw [hw1]
   have Hb1 := Lib.hid hb1
   clear hw1 hb1 c0
   go_wp2_with fail
   go_ret
   exact ⟨rfl, bthen Hb0.out Hb1.out⟩
  ·clear hk
   go_enter Tryz.func57, Tryz.ntmps57
   go_upto_region 1 with fail
   rw [Hw0.out]
   go_upto_region 2 with fail
   obtain ⟨w1, hw1⟩ : ∃ w1, w0.alloc (.cells (fnRow w.heap.size) 201) = w1 := ⟨_, rfl⟩
   have hb1 : Below w0.heap.size w0 w1 := by rw [← hw1]; exact (Below.refl _ _).alloc (Nat.le_refl _) _
   have d0 := Hcl.out w1 hb1
   rw [hw1]
   have Hb1 := Lib.hid hb1
   clear hw1 hb1 c0
   go_wp2_with fail
   go_ret
   exact ⟨rfl, bthen Hb0.out Hb1.out⟩
end Go.Proofs.YtmbhkkophkccbaaGreat.Fn
end
section
namespace Go.Proofs.YtmbhkkophkccbaaGreat.Pa
open Go Go.RowKit Go.Proofs.YtmbhkkophkccbaaGreat.Seq WS FS Mem Rd Shapes Word FFam Work
set_option linter.unusedVariables false
set_option linter.unusedSimpArgs false
abbrev rdC (s : ByteArray) (a : Nat) : Array Value := #[.string s, .int .i64 (a : Int)]
structure At (s : ByteArray) (br a : Nat) (w : World) : Prop where
 row : w.heap[br]? = some (.cells (rdC s a) 132 (0, 0))
 le : a ≤ s.size
 small : s.size ≤ 1048576
theorem At.cells {s : ByteArray} {br a : Nat} {w : World} (h : At s br a w) : w.cell? ⟨br, 0, none⟩ = some (.string s) ∧ w.cell? ⟨br, 1, none⟩ = some (.int .i64 (a : Int)) ∧ ∀ j, w.frozen? ⟨br, j, none⟩ = false := ⟨(cell_of_row _ _ _ _ _ _ h.row).trans rfl, (cell_of_row _ _ _ _ _ _ h.row).trans rfl, free_of h.row⟩
theorem At.set {s : ByteArray} {br a b : Nat} {w : World} (h : At s br a w) (hb : b ≤ s.size) : At s br b (w.setCell ⟨br, 1, none⟩ (.int .i64 (b : Int))) := ⟨(Repl.setCell_row h.row).trans rfl, hb, h.small⟩
theorem At.drew {s : ByteArray} {br a : Nat} {w : World} (h : At s br a w) : At s br a w.drew := ⟨h.row, h.le, h.small⟩
def nextB (s : ByteArray) (a : Nat) : UInt8 := if h : a < s.size then s[a] else 0
def tookB (s : ByteArray) (a : Nat) (c : UInt8) : Bool := decide (a < s.size) && nextB s a == c
abbrev OffR (br : Nat) (w w' : World) : Prop := Off (fun b => b = br) w w'
theorem next_yes {s : ByteArray} {a : Nat} (h : a < s.size) : nextB s a = s[a] := by unfold nextB; rw [dif_pos h]
theorem next_no {s : ByteArray} {a : Nat} (h : ¬ a < s.size) : nextB s a = 0 := by unfold nextB; rw [dif_neg h]
def run (s : ByteArray) (p : UInt8 → Bool) : Nat → Nat → Nat
 | 0, a => a
 | n + 1, a => if a < s.size ∧ p (nextB s a) = true then run s p n (a + 1) else a
def endOf (s : ByteArray) (p : UInt8 → Bool) (a : Nat) : Nat := run s p (s.size - a) a
theorem end_step {s : ByteArray} {p : UInt8 → Bool} {a : Nat} (h : a < s.size) (hp : p (nextB s a) = true) : endOf s p a = endOf s p (a + 1) := by
 unfold endOf
 rw [show s.size - a = (s.size - (a + 1)) + 1 by omega, run, if_pos ⟨h, hp⟩]
theorem end_stop {s : ByteArray} {p : UInt8 → Bool} {a : Nat} (h : ¬ (a < s.size ∧ p (nextB s a) = true)) : endOf s p a = a := by
 unfold endOf
 cases hs : s.size - a with
 | zero => rfl
 | succ n => rw [run, if_neg h]
theorem run_le (s : ByteArray) (p : UInt8 → Bool) : ∀ n a, a ≤ run s p n a ∧ run s p n a ≤ a + n
 | 0, a => ⟨Nat.le_refl _, Nat.le_refl _⟩
 | n + 1, a => by
  rw [run]
  split
  ·have := run_le s p n (a + 1); omega
  ·omega
theorem end_le {s : ByteArray} {p : UInt8 → Bool} {a : Nat} (h : a ≤ s.size) : a ≤ endOf s p a ∧ endOf s p a ≤ s.size := by
 have := run_le s p (s.size - a) a
 unfold endOf
 omega
def blkB (c : UInt8) : Bool := c == 9 || c == 10 || c == 12 || c == 13 || c == 32
def nmB (c : UInt8) : Bool := letterB c || (decide (48 ≤ c.toNat) && decide (c.toNat ≤ 57)) || c == 45 || c == 95
theorem next_calls (s : ByteArray) (br a : Nat) (w : World) (h : At s br a w) : Calls Tryz.prog 132 #[.pointer (some ⟨br, 0, none⟩)] w fun e w' => e = .returned (.int .u8 ((nextB s a).toNat : Int)) ∧ At s br a w' ∧ OffR br w w' := by
 obtain ⟨c0, c1, cf⟩ := h.cells
 have hle := h.le
 have hsm := h.small
 have H := Lib.hid h
 clear h
 by_cases ha : a < s.size
 ·have hq : ((a : Int) == (s.size : Int)) = false := by rw [beq_eq_false_iff_ne]; omega
  rw [next_yes ha]
  have haI : (a : Int) < (s.size : Int) := by omega
  have ha0 : (0 : Int) ≤ (a : Int) := by omega
  go_enter Tryz.func132, Tryz.ntmps132
  go_upto_region 1 with fail
  go_region
  all_goals go_upto_region 3 with fail
  all_goals go_region
  all_goals go_wp2_with fail
  all_goals go_ret
  all_goals first | exact ⟨rfl, H.out, Off.refl _ _⟩ | exact ⟨rfl, H.out.drew, Off.drew _ _⟩ | exact ⟨rfl, H.out.drew.drew, (Off.drew _ _).trans (Off.drew _ _)⟩ | skip
 ·have hq : ((a : Int) == (s.size : Int)) = true := by rw [beq_iff_eq]; omega
  rw [next_no ha]
  go_enter Tryz.func132, Tryz.ntmps132
  go_upto_region 1 with fail
  go_region
  all_goals go_wp2_with fail
  all_goals go_ret
  all_goals first | exact ⟨rfl, H.out, Off.refl _ _⟩ | exact ⟨rfl, H.out.drew, Off.drew _ _⟩ | skip
theorem give_calls (s : ByteArray) (br a : Nat) (w : World) (h : At s br a w) : Calls Tryz.prog 133 #[.pointer (some ⟨br, 0, none⟩)] w fun e w' => e = .panicked [{ v := .iface 129 (.int .i64 (a : Int)), recovered := false }] ∧ w = w' := by
 obtain ⟨c0, c1, cf⟩ := h.cells
 clear h
 go_enter Tryz.func133, Tryz.ntmps133
 go_wp2_with fail
 exact ⟨rfl, rfl, rfl⟩
theorem letter_calls (b : UInt8) (w : World) : Calls Tryz.prog 196 #[.int .u8 (b.toNat : Int)] w fun e w' => e = .returned (.bool (letterB b)) ∧ w = w' := by
 have hb := or32 b
 go_enter Tryz.func196, Tryz.ntmps196
 go_wp2
 ·have h : (97 : Int) ≤ ((b.toNat ||| 32 : Nat) : Int) := by assumption
  go_ret
  exact ⟨ret_bool (by rw [letter32, decide_eq_true h]; rfl), rfl⟩
 ·have h : ((b.toNat ||| 32 : Nat) : Int) < 97 := by assumption
  go_ret
  exact ⟨ret_bool (by rw [letter32, decide_eq_false (by omega)]; rfl), rfl⟩
theorem took_calls (s : ByteArray) (br a : Nat) (c : UInt8) (w : World) (h : At s br a w) : Calls Tryz.prog 61 #[.pointer (some ⟨br, 0, none⟩), .int .u8 (c.toNat : Int)] w fun e w' => e = .returned (.bool (tookB s a c)) ∧ At s br (if tookB s a c = true then a + 1 else a) w' ∧ OffR br w w' := by
 obtain ⟨c0, c1, cf⟩ := h.cells
 have hle := h.le
 have hsm := h.small
 have H := Lib.hid h
 clear h
 by_cases ha : a < s.size
 ·have haI : (a : Int) < (s.size : Int) := by omega
  have ha0 : (0 : Int) ≤ (a : Int) := by omega
  have haw : IntKind.i64.wrap ((a : Int) + 1) = ((a + 1 : Nat) : Int) := by rw [IntKind.wrap_i64]; omega
  have hcf := fun (u : Value) => cf 1
  by_cases hc : s[a] = c
  ·have hq : ((s[a].toNat : Int) == (c.toNat : Int)) = true := by rw [beq_iff_eq, hc]
   have hT : tookB s a c = true := by unfold tookB; rw [decide_eq_true ha, next_yes ha, hc]; simp
   rw [hT, if_pos rfl]
   clear hc hT
   have hset : At s br (a + 1) (w.setCell ⟨br, 1, none⟩ (.int .i64 ((a : Int) + 1))) := H.out.set (b := a + 1) (by omega)
   have Hs := Lib.hid hset
   clear hset
   go_enter Tryz.func61, Tryz.ntmps61
   go_upto_region 1 with fail
   go_region
   all_goals go_wp2_with fail
   all_goals go_ret
   all_goals first | exact ⟨rfl, Hs.out.drew, (Off.setCell (Y := fun b => b = br) w ⟨br, 1, none⟩ _ rfl).trans (Off.drew _ _)⟩ | exact ⟨rfl, Hs.out, Off.setCell (Y := fun b => b = br) w ⟨br, 1, none⟩ _ rfl⟩ | skip
  ·have hne : ¬ s[a].toNat = c.toNat := fun e => hc (UInt8.toNat_inj.1 e)
   have hq : ((s[a].toNat : Int) == (c.toNat : Int)) = false := by rw [beq_eq_false_iff_ne]; omega
   have hT : tookB s a c = false := by unfold tookB; rw [decide_eq_true ha, next_yes ha]; simp [hc]
   rw [hT, if_neg (by decide)]
   clear hc hT hne
   go_enter Tryz.func61, Tryz.ntmps61
   go_upto_region 1 with fail
   go_region
   all_goals go_wp2_with fail
   all_goals go_ret
   all_goals first | exact ⟨rfl, H.out, Off.refl _ _⟩ | exact ⟨rfl, H.out.drew, Off.drew _ _⟩ | skip
 ·have hT : tookB s a c = false := by unfold tookB; rw [decide_eq_false ha]; rfl
  rw [hT, if_neg (by decide)]
  have haI : ¬ (a : Int) < (s.size : Int) := by omega
  clear hT
  go_enter Tryz.func61, Tryz.ntmps61
  go_upto_region 1 with fail
  go_region
  all_goals go_wp2_with fail
  all_goals go_ret
  all_goals first | exact ⟨rfl, H.out, Off.refl _ _⟩ | exact ⟨rfl, H.out.drew, Off.drew _ _⟩ | skip
def PP {α : Type} (s : ByteArray) (br : Nat) (w : World) (M : Except Nat (α × Nat)) (V : α → Value → World → Prop) (e : Ending) (w' : World) : Prop := OffR br w w' ∧ match M with
 | .ok x => (∃ v, e = .returned v ∧ V x.1 v w') ∧ At s br x.2 w'
 | .error b => e = .panicked [{ v := .iface 129 (.int .i64 (b : Int)), recovered := false }]
def needP (s : ByteArray) (a : Nat) (c : UInt8) : Except Nat (Unit × Nat) := if tookB s a c = true then .ok ((), a + 1) else .error a
theorem need_calls (s : ByteArray) (br a : Nat) (c : UInt8) (w : World) (h : At s br a w) : Calls Tryz.prog 224 #[.pointer (some ⟨br, 0, none⟩), .int .u8 (c.toNat : Int)] w (PP s br w (needP s a c) (fun _ v _ => v = .tuple #[])) := by
 have ht := took_calls s br a c w h
 unfold needP
 cases hT : tookB s a c with
 | true =>
  rw [hT, if_pos rfl] at ht
  rw [if_pos rfl]
  have Ht := Lib.hid ht
  clear ht hT h
  go_enter Tryz.func224, Tryz.ntmps224
  go_wp2_with (go_at_call 61; (with_reducible refine (Ht.out).mono ?_); rintro e w5 ⟨rfl, ha5, ho5⟩; have Ha5 := Lib.hid ha5; have Ho5 := Lib.hid ho5; clear ha5 ho5)
  first | refine bodyPost_ret (results_none rfl _ _ _) rfl ?_ | go_end0
  exact ⟨Ho5.out, ⟨_, rfl, rfl⟩, Ha5.out⟩
 | false =>
  rw [hT, if_neg (by decide)] at ht
  rw [if_neg (by decide)]
  have Ht := Lib.hid ht
  clear ht hT h
  go_enter Tryz.func224, Tryz.ntmps224
  go_wp2_with (first | (go_at_call 61; (with_reducible refine (Ht.out).mono ?_); rintro e w5 ⟨rfl, ha5, ho5⟩; have hg5 := give_calls s br a w5 ha5; have Hg5 := Lib.hid hg5; have Ho5 := Lib.hid ho5; clear ha5 ho5 hg5) | (go_at_call 133; (with_reducible refine (Hg5.out).mono ?_); rintro e w6 ⟨rfl, rfl⟩))
  exact ⟨rfl, Ho5.out, rfl⟩
end Go.Proofs.YtmbhkkophkccbaaGreat.Pa
end
section
namespace Go.Proofs.YtmbhkkophkccbaaGreat.Pa
open Go Go.RowKit Go.Proofs.YtmbhkkophkccbaaGreat.Seq WS FS Mem Rd Shapes Word FFam Work
set_option linter.unusedVariables false
set_option linter.unusedSimpArgs false
theorem blk_index (b : UInt8) : decide (0 ≤ Lib.indexByte [9, 10, 12, 13, 32] b) = blkB b := by
 have key : ∀ n : Fin 256, decide (0 ≤ Lib.indexByte [9, 10, 12, 13, 32] (UInt8.ofNat n.val)) = blkB (UInt8.ofNat n.val) := by decide +kernel
 have := key ⟨b.toNat, b.toNat_lt⟩
 simpa using this
set_option maxRecDepth 100000 in
set_option maxHeartbeats 4000000 in
theorem blanks_calls (s : ByteArray) (br a : Nat) (w : World) (h : At s br a w) : Calls Tryz.prog 130 #[.pointer (some ⟨br, 0, none⟩)] w fun e w' => e = .returned (.bool (decide (a < endOf s blkB a))) ∧ At s br (endOf s blkB a) w' ∧ OffR br w w' := by
 have hle := h.le
 have hsm := h.small
 have H := Lib.hid h
 obtain ⟨c0, c1, cf⟩ := h.cells
 clear h
 go_enter Tryz.func130, Tryz.ntmps130
 go_wp2_with fail
 clear c0 c1 cf
 go_loopg [] (s.size - a) (fun g wr => ∃ b : Nat, a ≤ b ∧ b + g = s.size ∧ Hid (At s br b wr) ∧ Hid (endOf s blkB a = endOf s blkB b) ∧ Hid (OffR br w wr))
 case atStart => exact ⟨a, Nat.le_refl _, by omega, H, Lib.hid rfl, Lib.hid (Off.refl _ _)⟩
 case round =>
  obtain ⟨b, hab, hbg, hA, hE, hO⟩ := hrel
  obtain ⟨c0, c1, cf⟩ := hA.out.cells
  by_cases hb : b < s.size
  ·have hbI : (b : Int) < (s.size : Int) := by omega
   have hb0 : (0 : Int) ≤ (b : Int) := by omega
   have hnx := next_yes hb
   have hidx : ∀ W : World, Calls Tryz.prog 195 #[.string { data := #[9, 10, 12, 13, 32] }, .int .u8 (s[b].toNat : Int)] W fun e w' => e = .returned (.int .i64 (Lib.indexByte [9, 10, 12, 13, 32] s[b])) ∧ W = w' := fun W => (Tryz.strings_IndexByte _ _ _).mono (by rintro e w' ⟨rfl, rfl⟩; refine ⟨ret_i ?_, rfl⟩; rw [show ((s[b].toNat : Int)).toNat.toUInt8 = s[b] by simp])
   have hbi := blk_index s[b]
   have hst : blkB s[b] = true → endOf s blkB b = endOf s blkB (b + 1) := fun hx => end_step hb (by rw [hnx]; exact hx)
   have hsp : blkB s[b] = false → endOf s blkB b = b := fun hx => end_stop (by rw [hnx, hx]; simp)
   generalize hz : Lib.indexByte [9, 10, 12, 13, 32] s[b] = z at *
   have Hidx := Lib.hid hidx
   clear hidx hz hnx
   cases hx : blkB s[b] with
   | true =>
    rw [hx, decide_eq_true_eq] at hbi
    have hs1 := hst hx
    have hset : At s br (b + 1) (wr.setCell ⟨br, 1, none⟩ (.int .i64 ((b : Int) + 1))) := hA.out.set (b := b + 1) (by omega)
    have hbw : IntKind.i64.wrap ((b : Int) + 1) = ((b + 1 : Nat) : Int) := by rw [IntKind.wrap_i64]; omega
    have Hset := Lib.hid hset; have HE := Lib.hid (hE.out.trans hs1)
    clear hst hsp hx hset hs1
    obtain ⟨g, rfl⟩ : ∃ g, gk = g + 1 := ⟨gk - 1, by omega⟩
    go_upto_region 2 with fail
    go_region_held3 (fun w' => w'.cell? ⟨br, 0, none⟩ = some (.string s) ∧ w'.cell? ⟨br, 1, none⟩ = some (.int .i64 (b : Int)))
     (first | exact ⟨c0, c1⟩ | go_keep)
     (first | (go_at_call 195; (with_reducible refine (Hidx.out _).mono ?_); rintro e w5 ⟨rfl, rfl⟩))
    all_goals go_wp2_with fail
    all_goals
     go_roundg g
     case measure => omega
     case rel => first | exact ⟨b + 1, by omega, by omega, Lib.hid Hset.out.drew, HE, Lib.hid ((hO.out.trans (Off.setCell (Y := fun b => b = br) wr ⟨br, 1, none⟩ _ rfl)).trans (Off.drew _ _))⟩ | exact ⟨b + 1, by omega, by omega, Hset, HE, Lib.hid (hO.out.trans (Off.setCell (Y := fun b => b = br) wr ⟨br, 1, none⟩ _ rfl))⟩
   | false =>
    rw [hx, decide_eq_false_iff_not] at hbi
    have hb2 : z < 0 := by omega
    have hs1 := hE.out.trans (hsp hx)
    have Hs1 := Lib.hid hs1
    clear hst hsp hx hs1 hbi
    go_upto_region 2 with fail
    go_region_held3 (fun w' => w'.cell? ⟨br, 0, none⟩ = some (.string s) ∧ w'.cell? ⟨br, 1, none⟩ = some (.int .i64 (b : Int)))
     (first | exact ⟨c0, c1⟩ | go_keep)
     (first | (go_at_call 195; (with_reducible refine (Hidx.out _).mono ?_); rintro e w5 ⟨rfl, rfl⟩))
    all_goals go_wp2_with fail
    all_goals go_ret
    all_goals first | exact ⟨by rw [Hs1.out]; simp, by rw [Hs1.out]; exact hA.out.drew, hO.out.trans (Off.drew _ _)⟩ | exact ⟨by rw [Hs1.out]; simp, by rw [Hs1.out]; exact hA.out, hO.out⟩
  ·have hbI : ¬ (b : Int) < (s.size : Int) := by omega
   have hs1 := hE.out.trans (end_stop (p := blkB) (fun hx => hb hx.1))
   have Hs1 := Lib.hid hs1
   clear hs1
   go_upto_region 2 with fail
   go_region
   all_goals go_wp2_with fail
   all_goals go_ret
   all_goals first | exact ⟨by rw [Hs1.out]; simp, by rw [Hs1.out]; exact hA.out.drew, hO.out.trans (Off.drew _ _)⟩ | exact ⟨by rw [Hs1.out]; simp, by rw [Hs1.out]; exact hA.out, hO.out⟩
end Go.Proofs.YtmbhkkophkccbaaGreat.Pa
end
