/- Has, Tokens: the loops over the words. -/
import Derived.Test.YtbbompmpecblgaaWordIt
import Derived.Test.YtbbompmpecblgaaMem
namespace Go.Proofs.Ytbbompmpecblgaa.WordHas
open Go Go.RowKit Go.Shelf Go.Proofs.Ytbbompmpecblgaa.WS Go.Proofs.Ytbbompmpecblgaa.Seq Go.Proofs.Ytbbompmpecblgaa.WordIt Go.Proofs.Ytbbompmpecblgaa.Mem
set_option linter.unusedVariables false
set_option linter.unusedSimpArgs false
attribute [local go_sem] Oper.semAt_some wide_fn wide_depth wide_round

theorem words_calls (s : ByteArray) (w : World) : Calls Try.prog 57 #[.string s] w fun e w' =>
    e = .returned (.func (.func 83) #[] #[.pointer (some ⟨w.heap.size, 0, none⟩)]) ∧ w' = w.alloc (.cells #[.string s] 9 (0, 0)) := by
  go_enter Try.func57, Try.ntmps57
  go_wp2
  go_ret
  exact ⟨rfl, rfl⟩

set_option maxHeartbeats 800000 in
theorem Has_calls (s token : ByteArray) (hs : s.size < 4294967281) (w : World) : Calls Try.prog 21 #[.string s, .string token] w fun e w' =>
    e = .returned (.bool ((words s.data.toList).contains token.data.toList)) ∧ Below w.heap.size w w' := by
  refine (callsIn_wide (n := 0)).1 ?_
  refine callsIn_of_wp_marks Try.func21 rfl trivial ?_ rfl
  simp only [Try.ntmps21, List.size_toArray, List.length_cons, List.length_nil, Nat.reduceAdd, Nat.reduceSub, Array.replicate_succ, Array.replicate_zero, List.push_toArray, List.append_toArray, List.nil_append, List.cons_append]
  gi_wp2_with (gi_at_call 57; refine (callsIn_wide.2 (words_calls _ _)).mono ?_; rintro e w' ⟨rfl, rfl⟩)
  obtain ⟨W0, hW0⟩ : ∃ W0, ((w.alloc (.cells #[.string token] 9 (0, 0))).alloc (.cells #[.bool false] 4 (0, 0))).alloc (.cells #[.string s] 9 (0, 0)) = W0 := ⟨_, rfl⟩
  have hbl : Below w.heap.size w W0 := by rw [← hW0]; exact (((Below.refl _ _).alloc (Nat.le_refl _) _).alloc (by simp) _).alloc (by simp; omega) _
  have hz : W0.heap.size = w.heap.size + 3 := by rw [← hW0]; simp
  have q0 : W0.heap[w.heap.size]? = some (.cells #[.string token] 9 (0, 0)) := by rw [← hW0]; exact heap_old (heap_old (heap_new rfl))
  have q1 : W0.heap[w.heap.size + 1]? = some (.cells #[.bool false] 4 (0, 0)) := by rw [← hW0]; exact heap_old (heap_new (by simp))
  have q2 : W0.heap[w.heap.size + 2]? = some (.cells #[.string s] 9 (0, 0)) := by rw [← hW0]; exact heap_new (by simp)
  rw [hW0]
  clear hW0
  generalize hb0 : w.heap.size = b0 at *
  have Hb0 := Lib.hid hb0; clear hb0
  refine wpIn_range rfl (enters_of Try.func83 (by kernel_rfl) rfl) (words_seq s hs (b0 + 2)) (fun W ho => ho.keep q2 (fun h => h))
    (fun k X W => W.heap[b0]? = some (.cells #[.string token] 9 (0, 0)) ∧ W.heap[b0 + 1]? = some (.cells #[.bool false] 4 (0, 0)) ∧ (∀ b, X b ↔ (b = b0 ∨ b = b0 + 1)) ∧ token.data.toList ∉ (words s.data.toList).take k)
    (fun c k X W => c = .ret ∧ W.heap[b0 + 1]? = some (.cells #[.bool true] 4 (0, 0)) ∧ (∀ b, X b ↔ (b = b0 ∨ b = b0 + 1)) ∧ b0 < W.heap.size ∧ token.data.toList ∈ words s.data.toList)
    ?hI ?hIx (fun b => b = b0 ∨ b = b0 + 1) (fun b h => ⟨by omega, fun h => h⟩) ⟨q0, q1, fun b => Iff.rfl, by simp⟩ (fun b h => by rcases h with h | h; omega; exact h.elim)
    (fun k => { tmps := #[.string s, .string token, undef, .pointer (some ⟨b0, 0, none⟩), .pointer (some ⟨b0 + 1, 0, none⟩), ((words s.data.toList).map str).getD k undef, .string s, .func (.func 83) #[] #[.pointer (some ⟨b0 + 2, 0, none⟩)], ((words s.data.toList).map str).getD k undef, undef, undef, undef], defers := [] })
    ?assign ?body ?done ?stop
  case hI =>
    refine ⟨?_, ?_⟩
    · rintro k X W W' ⟨h1, h2, hx, hn⟩ ho
      exact ⟨ho.keep h1 (fun h => h ((hx _).2 (.inl rfl))), ho.keep h2 (fun h => h ((hx _).2 (.inr rfl))), hx, hn⟩
    · rintro k X W b ⟨h1, h2, hx, hn⟩ hb
      rcases (hx b).1 hb with rfl | rfl
      · exact lt_heap h1
      · exact lt_heap h2
  case hIx =>
    intro c
    refine ⟨?_, ?_⟩
    · rintro k X W W' ⟨hc, h2, hx, hl, hn⟩ ho
      exact ⟨hc, ho.keep h2 (fun h => h ((hx _).2 (.inr rfl))), hx, Nat.lt_of_lt_of_le hl ho.size, hn⟩
    · rintro k X W b ⟨hc, h2, hx, hl, hn⟩ hb
      rcases (hx b).1 hb with rfl | rfl
      · exact hl
      · exact lt_heap h2
  case assign =>
    intro l k hk W K hK
    rw [show ((words s.data.toList).map str).getD k undef = ((words s.data.toList).map str)[k] by rw [List.getD_eq_getElem?_getD, List.getElem?_eq_getElem hk]; rfl] at hK
    generalize ((words s.data.toList).map str)[k] = x at *
    gi_wp2
    exact hK
  case body =>
    rintro l k hk X W ⟨h1, h2, hx, hn⟩
    have hk' : k < (words s.data.toList).length := by simpa using hk
    rw [show ((words s.data.toList).map str).getD k undef = str (words s.data.toList)[k] by rw [List.getD_eq_getElem?_getD, List.getElem?_eq_getElem hk]; simp]
    have hc := cell_of h1
    have hf := free_of h2 0
    have hc2 := cell_of h2
    obtain ⟨wk, hwk⟩ : ∃ wk, (words s.data.toList)[k] = wk := ⟨_, rfl⟩
    rw [hwk]
    unfold str
    have Hwk := Lib.hid hwk; have H1 := Lib.hid h1; have H2 := Lib.hid h2; have Hx := Lib.hid hx; have Hn := Lib.hid hn
    clear hwk h1 h2 hx hn
    gi_wp2
    · have he : (wk == token.toList) = true := by assumption
      rw [Lib.toList_data] at he
      have hb1 : (W.setCell ⟨b0 + 1, 0, none⟩ (.bool true)).heap[b0 + 1]? = some (.cells #[.bool true] 4 (0, 0)) := set_one H2.out
      refine ⟨X, Grew.refl _ _, Off.setCell _ _ _ ((Hx.out _).2 (.inr rfl)), rfl, hb1, Hx.out, by have := lt_heap hb1; omega, ?_⟩
      rw [← eq_of_beq he, ← Hwk.out]
      exact List.getElem_mem _
    · have he : (wk == token.toList) = false := by assumption
      rw [Lib.toList_data] at he
      refine ⟨X, Grew.refl _ _, Off.refl _ _, H1.out, H2.out, Hx.out, fun hm => ?_⟩
      rw [List.take_succ_eq_append_getElem hk', List.mem_append] at hm
      rcases hm with hm | hm
      · exact Hn.out hm
      · rw [List.mem_singleton, Hwk.out] at hm
        exact absurd hm.symm (by simpa using he)
  case done =>
    rintro D X' W hD hXD hgr hof ⟨h1, h2, hx, hn⟩ hK
    have hc2 := cell_of h2
    have hf := free_of h2 0
    have H2 := Lib.hid h2; have Hn := Lib.hid hn; have HK := Lib.hid hK; have Hof := Lib.hid hof
    clear h1 h2 hx hn hK hof hgr
    gi_wp2
    refine ⟨by simp, .inl ⟨_, _, rfl, run_takeDeferred ((set_other (by omega)).trans HK.out), ?_⟩⟩
    have hbF : ((W.setCell ⟨b0 + 1, 0, none⟩ (.bool false)).putObj D (.deferred none)).heap[b0 + 1]? = some (.cells #[.bool false] 4 (0, 0)) := (put_other (by omega)).trans (set_one H2.out)
    have hcF := cell_of hbF
    have hnot : (words s.data.toList).contains token.data.toList = false := by
      have := Hn.out
      rw [List.take_of_length_le (by simp)] at this
      simpa using this
    refine ⟨.bool false, by simp [results, Try.results21, hcF, go_sem], by rw [hnot], ?_⟩
    have b1 := (hbl.trans (Hof.out.toBelow (B := b0) (by omega) (fun b h => by omega))).setCell (p := ⟨b0 + 1, 0, none⟩) (by simp) (.bool false)
    have hB := Hb0.out
    rw [hB]
    exact b1.trans (Off.toBelow (Y := fun b => b = D) (Off.putObj _ _ _ rfl) (by have := b1.size; omega) (fun b h => by omega))
  case stop =>
    rintro D c k X' W hk hD hXD hgr hof ⟨rfl, h2, hx, hl, hn⟩ hK
    gi_wp2
    refine ⟨by simp, .inl ⟨_, _, rfl, run_takeDeferred hK, ?_⟩⟩
    have hbF : (W.putObj D (.deferred none)).heap[b0 + 1]? = some (.cells #[.bool true] 4 (0, 0)) := (put_other (by omega)).trans h2
    have hcF := cell_of hbF
    have hyes : (words s.data.toList).contains token.data.toList = true := by simpa using hn
    refine ⟨.bool true, by simp [results, Try.results21, hcF, go_sem], by rw [hyes], ?_⟩
    have b1 := hbl.trans (hof.toBelow (B := b0) (by omega) (fun b h => by omega))
    have hB := Hb0.out
    rw [hB]
    exact b1.trans (Off.toBelow (Y := fun b => b = D) (Off.putObj _ _ _ rfl) (by have := b1.size; omega) (fun b h => by omega))

/-- The first so many words, counted. -/
def cnt (l : List (List UInt8)) (x : ByteArray) : Option Int := if x.data.toList ∈ l then some (l.count x.data.toList : Int) else none
theorem cnt_snoc (l : List (List UInt8)) (y : List UInt8) : (fun x' => if x' = (⟨y.toArray⟩ : ByteArray) then some ((cnt l ⟨y.toArray⟩).getD 0 + 1) else cnt l x') = cnt (l ++ [y]) := by
  funext x
  have hx : x = (⟨y.toArray⟩ : ByteArray) ↔ x.data.toList = y := by
    constructor
    · rintro rfl; rfl
    · intro h; rw [← h]
  unfold cnt
  by_cases h : x = (⟨y.toArray⟩ : ByteArray)
  · rw [if_pos h]
    have h' := hx.1 h
    have e1 : (⟨y.toArray⟩ : ByteArray).data.toList = y := rfl
    rw [h', e1, if_pos (show y ∈ l ++ [y] by simp)]
    simp only [List.count_append, List.count_singleton_self]
    by_cases hm : y ∈ l
    · rw [if_pos hm]; rfl
    · rw [if_neg hm, List.count_eq_zero_of_not_mem hm]; rfl
  · rw [if_neg h]
    have h' : ¬ x.data.toList = y := fun e => h (hx.2 e)
    have hc : [y].count x.data.toList = 0 := List.count_eq_zero_of_not_mem (by simp [h'])
    by_cases hm : x.data.toList ∈ l
    · rw [if_pos hm, if_pos (by simp [hm]), List.count_append, hc]; rfl
    · rw [if_neg hm, if_neg (by simp [hm, h'])]
theorem info_str : (Try.prog.info? 9).map (fun i => (i.zero, i.size, i.bytes)) = some (some (.string ⟨#[]⟩), 1, 16) := by kernel_rfl
theorem once_snoc' (l : List (List UInt8)) (y : List UInt8) : once (l ++ [y]) = if (cnt (l ++ [y]) ⟨y.toArray⟩).getD 0 = 1 then once l ++ [y] else once l := by
  rw [once_snoc]
  have : cnt (l ++ [y]) ⟨y.toArray⟩ = some ((l.count y : Int) + 1) := by
    unfold cnt; simp
  rw [this]
  by_cases h : y ∈ once l
  · rw [if_pos h]
    have := List.count_pos_iff.2 ((mem_once l y).1 h)
    rw [if_neg (by simp; omega)]
  · rw [if_neg h, if_pos]
    rw [List.count_eq_zero_of_not_mem (fun hm => h ((mem_once l y).2 hm))]; rfl

theorem own_base {w : World} {base base' n sz : Nat} {e : TypeId} {v : Value} {xs : List Value} (h : w.ownsRow base e sz v n xs) (hb : base' ≤ base) : w.ownsRow base' e sz v n xs := by
  obtain ⟨h1, h2⟩ := h
  refine ⟨h1, ?_⟩
  rcases h2 with h2 | ⟨g, cap, cur, rfl, hg, r⟩
  · exact .inl h2
  · exact .inr ⟨g, cap, cur, rfl, Nat.le_trans hb hg, r⟩
set_option maxHeartbeats 800000 in
/-- The words lie in a row made anew. -/
theorem Tokens_own (s : ByteArray) (hs : s.size < 4294967281) (w : World) : Calls Try.prog 23 #[.string s] w fun e w' =>
    ∃ v, e = .returned v ∧ w'.ownsRow w.heap.size 9 1 v (once (words s.data.toList)).length ((once (words s.data.toList)).map str) ∧ Below w.heap.size w w' := by
  have hmm := @run_makeMap Try.prog
  refine (callsIn_wide (n := 0)).1 ?_
  refine callsIn_of_wp_marks Try.func23 rfl trivial ?_ rfl
  simp only [Try.ntmps23, List.size_toArray, List.length_cons, List.length_nil, Nat.reduceAdd, Nat.reduceSub, Array.replicate_succ, Array.replicate_zero, List.push_toArray, List.append_toArray, List.nil_append, List.cons_append]
  gi_wp2_with (gi_at_call 57; refine (callsIn_wide.2 (words_calls _ _)).mono ?_; rintro e w' ⟨rfl, rfl⟩)
  clear hmm
  obtain ⟨W0, hW0⟩ : ∃ W0, (((w.alloc (.cells #[.slice none 0 0] 22 (0, 0))).alloc (.map #[] 0)).alloc (.cells #[.map (some (w.heap.size + 1))] 77 (0, 0))).alloc (.cells #[.string s] 9 (0, 0)) = W0 := ⟨_, rfl⟩
  have hbl : Below w.heap.size w W0 := by rw [← hW0]; exact ((((Below.refl _ _).alloc (Nat.le_refl _) _).alloc (by simp) _).alloc (by simp; omega) _).alloc (by simp; omega) _
  have hz : W0.heap.size = w.heap.size + 4 := by rw [← hW0]; simp
  have q0 : W0.heap[w.heap.size]? = some (.cells #[.slice none 0 0] 22 (0, 0)) := by rw [← hW0]; exact heap_old (heap_old (heap_old (heap_new rfl)))
  have q1 : W0.heap[w.heap.size + 1]? = some (.map #[] 0) := by rw [← hW0]; exact heap_old (heap_old (heap_new (by simp)))
  have q2 : W0.heap[w.heap.size + 2]? = some (.cells #[.map (some (w.heap.size + 1))] 77 (0, 0)) := by rw [← hW0]; exact heap_old (heap_new (by simp))
  have q3 : W0.heap[w.heap.size + 3]? = some (.cells #[.string s] 9 (0, 0)) := by rw [← hW0]; exact heap_new (by simp)
  rw [hW0]
  clear hW0
  generalize hb0 : w.heap.size = b0 at *
  have Hb0 := Lib.hid hb0; clear hb0
  have hwl := words_length s.data.toList
  rw [← Lib.size_eq] at hwl
  refine wpIn_range rfl (enters_of Try.func83 (by kernel_rfl) rfl) (words_seq s hs (b0 + 3)) (fun W ho => ho.keep q3 (fun h => h))
    (fun k X W => ∃ v, W.heap[b0]? = some (.cells #[v] 22 (0, 0)) ∧ W.heap[b0 + 2]? = some (.cells #[.map (some (b0 + 1))] 77 (0, 0)) ∧ IMap W (b0 + 1) Value.string (cnt ((words s.data.toList).take k)) ∧
      W.ownsRow (b0 + 3) 9 1 v (once ((words s.data.toList).take k)).length ((once ((words s.data.toList).take k)).map str) ∧ (∀ b, X b ↔ (b = b0 ∨ b = b0 + 1 ∨ b = b0 + 2 ∨ v.ownBlock = some b)))
    (fun c k X W => False)
    ?hI (fun c => ⟨fun _ _ _ _ h _ => h, fun _ _ _ _ h _ => h.elim⟩) (fun b => b = b0 ∨ b = b0 + 1 ∨ b = b0 + 2) (fun b h => ⟨by omega, fun h => h⟩)
    ⟨_, q0, q2, by rw [show cnt (List.take 0 (words s.data.toList)) = fun _ => none from by funext x; simp [cnt]]; exact IMap.new q1, by rw [List.take_zero]; exact World.ownsRow_nil _ _ _ _, fun b => by simp [Value.ownBlock]⟩
    (fun b h => by rcases h with h | h; omega; exact h.elim)
    (fun k => { tmps := #[.string s, undef, .pointer (some ⟨b0, 0, none⟩), .pointer (some ⟨b0 + 1 + 1, 0, none⟩), ((words s.data.toList).map str).getD k undef, .map (some (b0 + 1)), .string s, .func (.func 83) #[] #[.pointer (some ⟨b0 + 1 + 1 + 1, 0, none⟩)], ((words s.data.toList).map str).getD k undef, undef, undef, undef, undef, undef, undef, undef, undef, undef, undef, undef, undef, undef], defers := [] })
    ?assign ?body ?done ?stop
  case hI =>
    refine ⟨?_, ?_⟩
    · rintro k X W W' ⟨v, h1, h2, h3, h4, hx⟩ ho
      exact ⟨v, ho.keep h1 (fun h => h ((hx _).2 (.inl rfl))), ho.keep h2 (fun h => h ((hx _).2 (.inr (.inr (.inl rfl))))), h3.keep (ho.block _ h3.lt (fun h => h ((hx _).2 (.inr (.inl rfl))))),
        own_keep h4 (fun g hg => ho.block g (h4.lt g hg).2 (fun h => h ((hx _).2 (.inr (.inr (.inr hg)))))), hx⟩
    · rintro k X W b ⟨v, h1, h2, h3, h4, hx⟩ hb
      rcases (hx b).1 hb with rfl | rfl | rfl | h
      · exact lt_heap h1
      · exact h3.lt
      · exact lt_heap h2
      · exact (h4.lt _ h).2
  case assign =>
    intro l k hk W K hK
    rw [show ((words s.data.toList).map str).getD k undef = ((words s.data.toList).map str)[k] by rw [List.getD_eq_getElem?_getD, List.getElem?_eq_getElem hk]; rfl] at hK
    generalize ((words s.data.toList).map str)[k] = x at *
    gi_wp2
    exact hK
  case body =>
    rintro l k hk X W ⟨v, h1, h2, h3, h4, hx⟩
    have hk' : k < (words s.data.toList).length := by simpa using hk
    rw [show ((words s.data.toList).map str).getD k undef = str (words s.data.toList)[k] by rw [List.getD_eq_getElem?_getD, List.getElem?_eq_getElem hk]; simp]
    have htk : (words s.data.toList).take (k + 1) = (words s.data.toList).take k ++ [(words s.data.toList)[k]] := List.take_succ_eq_append_getElem hk'
    have hlen : (once ((words s.data.toList).take k)).length ≤ k := Nat.le_trans (once_length _) (List.length_take_le _ _)
    generalize hwk : (words s.data.toList)[k] = wk at *
    obtain ⟨xw, hxw⟩ : ∃ xw : ByteArray, xw = ⟨wk.toArray⟩ := ⟨_, rfl⟩
    rw [show str wk = .string xw by rw [hxw]; rfl]
    have K := string_key (P := Try.prog) (kt := 9) Try.underlying9
    have hlk1 := h3.lookup K (T := 77) Try.underlying77 Try.zeroValue3 xw
    have hrange : 0 ≤ (cnt ((words s.data.toList).take k) xw).getD 0 ∧ (cnt ((words s.data.toList).take k) xw).getD 0 ≤ 4294967281 := by
      unfold cnt
      split
      · have := List.count_le_length (a := xw.data.toList) (l := (words s.data.toList).take k)
        have := List.length_take_le k (words s.data.toList)
        simp only [Option.getD_some]; omega
      · simp
    obtain ⟨o, hup, h3'⟩ := h3.update K (T := 77) Try.underlying77 xw ((cnt ((words s.data.toList).take k) xw).getD 0 + 1)
    have hlk2 := h3'.lookup K (T := 77) Try.underlying77 Try.zeroValue3 xw
    rw [if_pos rfl, Option.getD_some] at hlk2
    have hon := once_snoc' ((words s.data.toList).take k) wk
    rw [← cnt_snoc, ← hxw] at hon
    simp only [if_true, Option.getD_some] at hon
    have h3n : IMap (W.putObj (b0 + 1) o) (b0 + 1) Value.string (cnt ((words s.data.toList).take (k + 1))) := by rw [htk, ← cnt_snoc, ← hxw]; exact h3'
    have hoff : Off X W (W.putObj (b0 + 1) o) := Off.putObj _ _ _ ((hx _).2 (.inr (.inl rfl)))
    generalize hW1 : W.putObj (b0 + 1) o = W1 at *
    have g1 : W1.heap[b0]? = some (.cells #[v] 22 (0, 0)) := by rw [← hW1]; exact (put_other (by omega)).trans h1
    have g2 : W1.heap[b0 + 2]? = some (.cells #[.map (some (b0 + 1))] 77 (0, 0)) := by rw [← hW1]; exact (put_other (by omega)).trans h2
    have g4 : W1.ownsRow (b0 + 3) 9 1 v (once ((words s.data.toList).take k)).length ((once ((words s.data.toList).take k)).map str) := own_keep h4 (fun g hg => by
      rw [← hW1]
      refine put_other ?_
      rcases h4.lt g hg with ⟨h, _⟩
      omega)
    have hcm := cell_of h2
    have hcm1 := cell_of g2
    have hco1 := cell_of g1
    have hfo1 := free_of g1 0
    have hlt1 := lt_heap g2
    generalize hc0 : (cnt ((words s.data.toList).take k) xw).getD 0 = c0 at *
    obtain ⟨hr0, hr1⟩ := hrange
    rw [htk] at h3n ⊢
    have Hon := Lib.hid hon; have H3n := Lib.hid h3n; have Hoff := Lib.hid hoff; have G4 := Lib.hid g4; have G2 := Lib.hid g2; have Hx := Lib.hid hx; have G1 := Lib.hid g1; have Hxw := Lib.hid hxw
    clear hW1 h1 h2 h3 h4 h3' hx htk hon h3n hoff g1 g2 g4 hc0 hxw hwk K
    by_cases h0 : c0 = 0
    · subst h0
      have hon := Hon.out
      rw [if_pos (show ((0 : Int) + 1 = 1) from rfl)] at hon
      have Hon' := Lib.hid hon
      rw [show ((0 : Int) + 1) = 1 from rfl] at hup hlk2
      have hof1 : ∀ w1, W1.grownBy w1 v.ownBlock → w1.heap[b0]? = some (.cells #[v] 22 (0, 0)) ∧ w1.heap[b0 + 2]? = some (.cells #[.map (some (b0 + 1))] 77 (0, 0)) ∧ IMap w1 (b0 + 1) Value.string (cnt ((words s.data.toList).take k ++ [wk])) ∧ Off X W w1 := fun w1 hg => by
        have hne : ∀ b, b < b0 + 3 → some b ≠ v.ownBlock := fun b hb e => by have := (G4.out.lt b e.symm).1; omega
        have ho : Off X W1 w1 := Off.grown hg (fun r e => (Hx.out _).2 (.inr (.inr (.inr e))))
        exact ⟨(hg.block _ (lt_heap G1.out) (hne _ (by omega))).trans G1.out, (hg.block _ (lt_heap G2.out) (hne _ (by omega))).trans G2.out, H3n.out.keep (hg.block _ H3n.out.lt (hne _ (by omega))), Hoff.out.trans ho⟩
      clear hr0 hr1 hon Hon
      gi_wp2_with (gi_at_builtin; (refine in_append W1 (b0 + 3) rfl _ _ 22 9 (.string ⟨#[]⟩) 16 rfl Try.underlying22 info_str rfl v ((once ((words s.data.toList).take k)).map str) (.string xw) rfl rfl rfl (by rw [List.length_map]; exact G4.out) (by omega) (by rw [List.length_map]; omega) (by rw [List.length_map]; simp only [maxLen]; omega) ?_); rintro v1 w1 hown hgrow ⟨g, cap, rfl, hat⟩; have hoff1 := hof1 w1 hgrow; have hr1 := hoff1.1; have hr2 := free_of hoff1.1 0; have hrc := cell_of hoff1.1)
      have hxs : (once ((words s.data.toList).take k)).map str ++ [.string xw] = (once ((words s.data.toList).take k ++ [wk])).map str := by rw [Hon'.out, List.map_append, Hxw.out]; rfl
      rw [hxs] at hown
      have hg3 : b0 + 3 ≤ g := (hown.lt g rfl).1
      refine ⟨fun b => b = b0 ∨ b = b0 + 1 ∨ b = b0 + 2 ∨ b = g, ?_, hoff1.2.2.2.trans (Off.setCell _ _ _ ((Hx.out _).2 (.inl rfl))), _, set_one hoff1.1, (set_other (by omega)).trans hoff1.2.1, hoff1.2.2.1.keep (set_other (by omega)), ?_, fun b => by simp [Value.ownBlock, eq_comm]⟩
      · rintro b (rfl | rfl | rfl | rfl)
        · exact .inl ((Hx.out _).2 (.inl rfl))
        · exact .inl ((Hx.out _).2 (.inr (.inl rfl)))
        · exact .inl ((Hx.out _).2 (.inr (.inr (.inl rfl))))
        · rcases hat with hat | hat
          · exact .inl ((Hx.out _).2 (.inr (.inr (.inr hat))))
          · exact .inr (Nat.le_trans Hoff.out.size hat)
      · have := own_keep (w' := w1.setCell ⟨b0, 0, none⟩ (.slice (some ⟨g, 0, none⟩) (((once ((words s.data.toList).take k)).map str).length + 1) cap)) hown (fun g' hg' => set_other (by
          simp [Value.ownBlock] at hg'; omega))
        simp only [List.length_map] at this ⊢
        exact this
    · have h01 : (c0 + 1 == 1) = false := by rw [beq_eq_false_iff_ne]; omega
      have hon := Hon.out
      rw [if_neg (show ¬ (c0 + 1 = 1) by omega)] at hon
      have Hon' := Lib.hid hon; clear hon
      gi_wp2_with fail
      exact ⟨X, Grew.refl _ _, Hoff.out, v, G1.out, G2.out, H3n.out, by rw [Hon'.out]; exact G4.out, Hx.out⟩
  case done =>
    rintro D X' W hD hXD hgr hof ⟨v, h1, h2, h3, h4, hx⟩ hK
    have hc1 := cell_of h1
    have hf := free_of h1 0
    have hbF : ∀ u, ((W.setCell ⟨b0, 0, none⟩ u).putObj D (.deferred none)).heap[b0]? = some (.cells #[u] 22 (0, 0)) := fun u => (put_other (by omega)).trans (set_one h1)
    obtain ⟨A, n, c, rfl⟩ : ∃ A n c, v = .slice A n c := by
      rcases h4.2 with ⟨rfl, _⟩ | ⟨g, cap, cur, rfl, _⟩
      · exact ⟨_, _, _, rfl⟩
      · exact ⟨_, _, _, rfl⟩
    have H1 := Lib.hid h1; have H4 := Lib.hid h4; have HK := Lib.hid hK; have Hof := Lib.hid hof; have HbF := Lib.hid hbF; have HXD := Lib.hid hXD; have Hx := Lib.hid hx
    clear h1 h2 h3 h4 hx hK hof hgr hbF hXD
    gi_wp2
    refine ⟨by simp, .inl ⟨_, _, rfl, run_takeDeferred ((set_other (by omega)).trans HK.out), ?_⟩⟩
    have hcF := cell_of (HbF.out (.slice A n c))
    refine ⟨.slice A n c, by simp [results, Try.results23, hcF, go_sem], .slice A n c, rfl, ?_, ?_⟩
    · have e : (words s.data.toList).take ((words s.data.toList).map str).length = words s.data.toList := List.take_of_length_le (by simp)
      have h4 := H4.out
      rw [e] at h4
      have hB := Hb0.out
      rw [hB]
      refine own_base (base := b0 + 3) (own_keep h4 (fun g hg => ?_)) (by omega)
      have hg3 := (h4.lt g hg).1
      exact (put_other (fun e => HXD.out (by rw [← e]; exact (Hx.out _).2 (.inr (.inr (.inr hg)))))).trans (set_other (by omega))
    · have b1 := (hbl.trans (Hof.out.toBelow (B := b0) (by omega) (fun b h => by omega))).setCell (p := ⟨b0, 0, none⟩) (by simp) (.slice A n c)
      have hB := Hb0.out
      rw [hB]
      exact b1.trans (Off.toBelow (Y := fun b => b = D) (Off.putObj _ _ _ rfl) (by have := b1.size; omega) (fun b h => by omega))
  case stop => exact fun D c k X' W hk hD hXD hgr hof h _ => h.elim
theorem Tokens_calls (s : ByteArray) (hs : s.size < 4294967281) (w : World) : Calls Try.prog 23 #[.string s] w fun e w' =>
    ∃ v, e = .returned v ∧ RdRow w'.heap.size w' v 1 (once (words s.data.toList)).length ((once (words s.data.toList)).map str) ∧ Below w.heap.size w w' :=
  (Tokens_own s hs w).mono fun e w' ⟨v, he, hv, hb⟩ => ⟨v, he, RdRow.of_own hv, hb⟩
end Go.Proofs.Ytbbompmpecblgaa.WordHas
