/- Joined by a program: WordHas, WShown, FAttr. -/
import Derived.Test.YtbbompmpecblgaaC02
import Derived.Test.YtbbompmpecblgaaC03
section
/- Has, Tokens: the loops over the words. -/
namespace Go.Proofs.Ytbbompmpecblgaa.WordHas
open Go Go.RowKit Go.Shelf Go.Proofs.Ytbbompmpecblgaa.WS Go.Proofs.Ytbbompmpecblgaa.Seq Go.Proofs.Ytbbompmpecblgaa.WordIt Go.Proofs.Ytbbompmpecblgaa.Mem
set_option linter.unusedVariables false
set_option linter.unusedSimpArgs false
attribute [local go_sem] Oper.semAt_some wide_fn wide_depth wide_round

theorem words_calls (s : ByteArray) (w : World) : Calls Try.prog 57 #[.string s] w fun e w' =>
    e = .returned (.func (.func 83) #[] #[.pointer (some ⟨w.heap.size, 0, none⟩)]) ∧ w' = w.alloc (.cells #[.string s] 9 (0, 0)) := by
  go_enter Try.func57, Try.ntmps57
  go_wp2
  go_ret
  exact ⟨rfl, rfl⟩

set_option maxHeartbeats 800000 in
theorem Has_calls (s token : ByteArray) (hs : s.size < 4294967281) (w : World) : Calls Try.prog 21 #[.string s, .string token] w fun e w' =>
    e = .returned (.bool ((words s.data.toList).contains token.data.toList)) ∧ Below w.heap.size w w' := by
  refine (callsIn_wide (n := 0)).1 ?_
  refine callsIn_of_wp_marks Try.func21 rfl trivial ?_ rfl
  simp only [Try.ntmps21, List.size_toArray, List.length_cons, List.length_nil, Nat.reduceAdd, Nat.reduceSub, Array.replicate_succ, Array.replicate_zero, List.push_toArray, List.append_toArray, List.nil_append, List.cons_append]
  gi_wp2_with (gi_at_call 57; refine (callsIn_wide.2 (words_calls _ _)).mono ?_; rintro e w' ⟨rfl, rfl⟩)
  obtain ⟨W0, hW0⟩ : ∃ W0, ((w.alloc (.cells #[.string token] 9 (0, 0))).alloc (.cells #[.bool false] 4 (0, 0))).alloc (.cells #[.string s] 9 (0, 0)) = W0 := ⟨_, rfl⟩
  have hbl : Below w.heap.size w W0 := by rw [← hW0]; exact (((Below.refl _ _).alloc (Nat.le_refl _) _).alloc (by simp) _).alloc (by simp; omega) _
  have hz : W0.heap.size = w.heap.size + 3 := by rw [← hW0]; simp
  have q0 : W0.heap[w.heap.size]? = some (.cells #[.string token] 9 (0, 0)) := by rw [← hW0]; exact heap_old (heap_old (heap_new rfl))
  have q1 : W0.heap[w.heap.size + 1]? = some (.cells #[.bool false] 4 (0, 0)) := by rw [← hW0]; exact heap_old (heap_new (by simp))
  have q2 : W0.heap[w.heap.size + 2]? = some (.cells #[.string s] 9 (0, 0)) := by rw [← hW0]; exact heap_new (by simp)
  rw [hW0]
  clear hW0
  generalize hb0 : w.heap.size = b0 at *
  have Hb0 := Lib.hid hb0; clear hb0
  refine wpIn_range rfl (enters_of Try.func83 (by kernel_rfl) rfl) (words_seq s hs (b0 + 2)) (fun W ho => ho.keep q2 (fun h => h))
    (fun k X W => W.heap[b0]? = some (.cells #[.string token] 9 (0, 0)) ∧ W.heap[b0 + 1]? = some (.cells #[.bool false] 4 (0, 0)) ∧ (∀ b, X b ↔ (b = b0 ∨ b = b0 + 1)) ∧ token.data.toList ∉ (words s.data.toList).take k)
    (fun c k X W => c = .ret ∧ W.heap[b0 + 1]? = some (.cells #[.bool true] 4 (0, 0)) ∧ (∀ b, X b ↔ (b = b0 ∨ b = b0 + 1)) ∧ b0 < W.heap.size ∧ token.data.toList ∈ words s.data.toList)
    ?hI ?hIx (fun b => b = b0 ∨ b = b0 + 1) (fun b h => ⟨by omega, fun h => h⟩) ⟨q0, q1, fun b => Iff.rfl, by simp⟩ (fun b h => by rcases h with h | h; omega; exact h.elim)
    (fun k => { tmps := #[.string s, .string token, undef, .pointer (some ⟨b0, 0, none⟩), .pointer (some ⟨b0 + 1, 0, none⟩), ((words s.data.toList).map str).getD k undef, .string s, .func (.func 83) #[] #[.pointer (some ⟨b0 + 2, 0, none⟩)], ((words s.data.toList).map str).getD k undef, undef, undef, undef], defers := [] })
    ?assign ?body ?done ?stop
  case hI =>
    refine ⟨?_, ?_⟩
    · rintro k X W W' ⟨h1, h2, hx, hn⟩ ho
      exact ⟨ho.keep h1 (fun h => h ((hx _).2 (.inl rfl))), ho.keep h2 (fun h => h ((hx _).2 (.inr rfl))), hx, hn⟩
    · rintro k X W b ⟨h1, h2, hx, hn⟩ hb
      rcases (hx b).1 hb with rfl | rfl
      · exact lt_heap h1
      · exact lt_heap h2
  case hIx =>
    intro c
    refine ⟨?_, ?_⟩
    · rintro k X W W' ⟨hc, h2, hx, hl, hn⟩ ho
      exact ⟨hc, ho.keep h2 (fun h => h ((hx _).2 (.inr rfl))), hx, Nat.lt_of_lt_of_le hl ho.size, hn⟩
    · rintro k X W b ⟨hc, h2, hx, hl, hn⟩ hb
      rcases (hx b).1 hb with rfl | rfl
      · exact hl
      · exact lt_heap h2
  case assign =>
    intro l k hk W K hK
    rw [show ((words s.data.toList).map str).getD k undef = ((words s.data.toList).map str)[k] by rw [List.getD_eq_getElem?_getD, List.getElem?_eq_getElem hk]; rfl] at hK
    generalize ((words s.data.toList).map str)[k] = x at *
    gi_wp2
    exact hK
  case body =>
    rintro l k hk X W ⟨h1, h2, hx, hn⟩
    have hk' : k < (words s.data.toList).length := by simpa using hk
    rw [show ((words s.data.toList).map str).getD k undef = str (words s.data.toList)[k] by rw [List.getD_eq_getElem?_getD, List.getElem?_eq_getElem hk]; simp]
    have hc := cell_of h1
    have hf := free_of h2 0
    have hc2 := cell_of h2
    obtain ⟨wk, hwk⟩ : ∃ wk, (words s.data.toList)[k] = wk := ⟨_, rfl⟩
    rw [hwk]
    unfold str
    have Hwk := Lib.hid hwk; have H1 := Lib.hid h1; have H2 := Lib.hid h2; have Hx := Lib.hid hx; have Hn := Lib.hid hn
    clear hwk h1 h2 hx hn
    gi_wp2
    · have he : (wk == token.toList) = true := by assumption
      rw [Lib.toList_data] at he
      have hb1 : (W.setCell ⟨b0 + 1, 0, none⟩ (.bool true)).heap[b0 + 1]? = some (.cells #[.bool true] 4 (0, 0)) := set_one H2.out
      refine ⟨X, Grew.refl _ _, Off.setCell _ _ _ ((Hx.out _).2 (.inr rfl)), rfl, hb1, Hx.out, by have := lt_heap hb1; omega, ?_⟩
      rw [← eq_of_beq he, ← Hwk.out]
      exact List.getElem_mem _
    · have he : (wk == token.toList) = false := by assumption
      rw [Lib.toList_data] at he
      refine ⟨X, Grew.refl _ _, Off.refl _ _, H1.out, H2.out, Hx.out, fun hm => ?_⟩
      rw [List.take_succ_eq_append_getElem hk', List.mem_append] at hm
      rcases hm with hm | hm
      · exact Hn.out hm
      · rw [List.mem_singleton, Hwk.out] at hm
        exact absurd hm.symm (by simpa using he)
  case done =>
    rintro D X' W hD hXD hgr hof ⟨h1, h2, hx, hn⟩ hK
    have hc2 := cell_of h2
    have hf := free_of h2 0
    have H2 := Lib.hid h2; have Hn := Lib.hid hn; have HK := Lib.hid hK; have Hof := Lib.hid hof
    clear h1 h2 hx hn hK hof hgr
    gi_wp2
    refine ⟨by simp, .inl ⟨_, _, rfl, run_takeDeferred ((set_other (by omega)).trans HK.out), ?_⟩⟩
    have hbF : ((W.setCell ⟨b0 + 1, 0, none⟩ (.bool false)).putObj D (.deferred none)).heap[b0 + 1]? = some (.cells #[.bool false] 4 (0, 0)) := (put_other (by omega)).trans (set_one H2.out)
    have hcF := cell_of hbF
    have hnot : (words s.data.toList).contains token.data.toList = false := by
      have := Hn.out
      rw [List.take_of_length_le (by simp)] at this
      simpa using this
    refine ⟨.bool false, by simp [results, Try.results21, hcF, go_sem], by rw [hnot], ?_⟩
    have b1 := (hbl.trans (Hof.out.toBelow (B := b0) (by omega) (fun b h => by omega))).setCell (p := ⟨b0 + 1, 0, none⟩) (by simp) (.bool false)
    have hB := Hb0.out
    rw [hB]
    exact b1.trans (Off.toBelow (Y := fun b => b = D) (Off.putObj _ _ _ rfl) (by have := b1.size; omega) (fun b h => by omega))
  case stop =>
    rintro D c k X' W hk hD hXD hgr hof ⟨rfl, h2, hx, hl, hn⟩ hK
    gi_wp2
    refine ⟨by simp, .inl ⟨_, _, rfl, run_takeDeferred hK, ?_⟩⟩
    have hbF : (W.putObj D (.deferred none)).heap[b0 + 1]? = some (.cells #[.bool true] 4 (0, 0)) := (put_other (by omega)).trans h2
    have hcF := cell_of hbF
    have hyes : (words s.data.toList).contains token.data.toList = true := by simpa using hn
    refine ⟨.bool true, by simp [results, Try.results21, hcF, go_sem], by rw [hyes], ?_⟩
    have b1 := hbl.trans (hof.toBelow (B := b0) (by omega) (fun b h => by omega))
    have hB := Hb0.out
    rw [hB]
    exact b1.trans (Off.toBelow (Y := fun b => b = D) (Off.putObj _ _ _ rfl) (by have := b1.size; omega) (fun b h => by omega))

/-- The first so many words, counted. -/
def cnt (l : List (List UInt8)) (x : ByteArray) : Option Int := if x.data.toList ∈ l then some (l.count x.data.toList : Int) else none
theorem cnt_snoc (l : List (List UInt8)) (y : List UInt8) : (fun x' => if x' = (⟨y.toArray⟩ : ByteArray) then some ((cnt l ⟨y.toArray⟩).getD 0 + 1) else cnt l x') = cnt (l ++ [y]) := by
  funext x
  have hx : x = (⟨y.toArray⟩ : ByteArray) ↔ x.data.toList = y := by
    constructor
    · rintro rfl; rfl
    · intro h; rw [← h]
  unfold cnt
  by_cases h : x = (⟨y.toArray⟩ : ByteArray)
  · rw [if_pos h]
    have h' := hx.1 h
    have e1 : (⟨y.toArray⟩ : ByteArray).data.toList = y := rfl
    rw [h', e1, if_pos (show y ∈ l ++ [y] by simp)]
    simp only [List.count_append, List.count_singleton_self]
    by_cases hm : y ∈ l
    · rw [if_pos hm]; rfl
    · rw [if_neg hm, List.count_eq_zero_of_not_mem hm]; rfl
  · rw [if_neg h]
    have h' : ¬ x.data.toList = y := fun e => h (hx.2 e)
    have hc : [y].count x.data.toList = 0 := List.count_eq_zero_of_not_mem (by simp [h'])
    by_cases hm : x.data.toList ∈ l
    · rw [if_pos hm, if_pos (by simp [hm]), List.count_append, hc]; rfl
    · rw [if_neg hm, if_neg (by simp [hm, h'])]
theorem info_str : (Try.prog.info? 9).map (fun i => (i.zero, i.size, i.bytes)) = some (some (.string ⟨#[]⟩), 1, 16) := by kernel_rfl
theorem once_snoc' (l : List (List UInt8)) (y : List UInt8) : once (l ++ [y]) = if (cnt (l ++ [y]) ⟨y.toArray⟩).getD 0 = 1 then once l ++ [y] else once l := by
  rw [once_snoc]
  have : cnt (l ++ [y]) ⟨y.toArray⟩ = some ((l.count y : Int) + 1) := by
    unfold cnt; simp
  rw [this]
  by_cases h : y ∈ once l
  · rw [if_pos h]
    have := List.count_pos_iff.2 ((mem_once l y).1 h)
    rw [if_neg (by simp; omega)]
  · rw [if_neg h, if_pos]
    rw [List.count_eq_zero_of_not_mem (fun hm => h ((mem_once l y).2 hm))]; rfl

theorem own_base {w : World} {base base' n sz : Nat} {e : TypeId} {v : Value} {xs : List Value} (h : w.ownsRow base e sz v n xs) (hb : base' ≤ base) : w.ownsRow base' e sz v n xs := by
  obtain ⟨h1, h2⟩ := h
  refine ⟨h1, ?_⟩
  rcases h2 with h2 | ⟨g, cap, cur, rfl, hg, r⟩
  · exact .inl h2
  · exact .inr ⟨g, cap, cur, rfl, Nat.le_trans hb hg, r⟩
set_option maxHeartbeats 800000 in
/-- The words lie in a row made anew. -/
theorem Tokens_own (s : ByteArray) (hs : s.size < 4294967281) (w : World) : Calls Try.prog 23 #[.string s] w fun e w' =>
    ∃ v, e = .returned v ∧ w'.ownsRow w.heap.size 9 1 v (once (words s.data.toList)).length ((once (words s.data.toList)).map str) ∧ Below w.heap.size w w' := by
  have hmm := @run_makeMap Try.prog
  refine (callsIn_wide (n := 0)).1 ?_
  refine callsIn_of_wp_marks Try.func23 rfl trivial ?_ rfl
  simp only [Try.ntmps23, List.size_toArray, List.length_cons, List.length_nil, Nat.reduceAdd, Nat.reduceSub, Array.replicate_succ, Array.replicate_zero, List.push_toArray, List.append_toArray, List.nil_append, List.cons_append]
  gi_wp2_with (gi_at_call 57; refine (callsIn_wide.2 (words_calls _ _)).mono ?_; rintro e w' ⟨rfl, rfl⟩)
  clear hmm
  obtain ⟨W0, hW0⟩ : ∃ W0, (((w.alloc (.cells #[.slice none 0 0] 22 (0, 0))).alloc (.map #[] 0)).alloc (.cells #[.map (some (w.heap.size + 1))] 77 (0, 0))).alloc (.cells #[.string s] 9 (0, 0)) = W0 := ⟨_, rfl⟩
  have hbl : Below w.heap.size w W0 := by rw [← hW0]; exact ((((Below.refl _ _).alloc (Nat.le_refl _) _).alloc (by simp) _).alloc (by simp; omega) _).alloc (by simp; omega) _
  have hz : W0.heap.size = w.heap.size + 4 := by rw [← hW0]; simp
  have q0 : W0.heap[w.heap.size]? = some (.cells #[.slice none 0 0] 22 (0, 0)) := by rw [← hW0]; exact heap_old (heap_old (heap_old (heap_new rfl)))
  have q1 : W0.heap[w.heap.size + 1]? = some (.map #[] 0) := by rw [← hW0]; exact heap_old (heap_old (heap_new (by simp)))
  have q2 : W0.heap[w.heap.size + 2]? = some (.cells #[.map (some (w.heap.size + 1))] 77 (0, 0)) := by rw [← hW0]; exact heap_old (heap_new (by simp))
  have q3 : W0.heap[w.heap.size + 3]? = some (.cells #[.string s] 9 (0, 0)) := by rw [← hW0]; exact heap_new (by simp)
  rw [hW0]
  clear hW0
  generalize hb0 : w.heap.size = b0 at *
  have Hb0 := Lib.hid hb0; clear hb0
  have hwl := words_length s.data.toList
  rw [← Lib.size_eq] at hwl
  refine wpIn_range rfl (enters_of Try.func83 (by kernel_rfl) rfl) (words_seq s hs (b0 + 3)) (fun W ho => ho.keep q3 (fun h => h))
    (fun k X W => ∃ v, W.heap[b0]? = some (.cells #[v] 22 (0, 0)) ∧ W.heap[b0 + 2]? = some (.cells #[.map (some (b0 + 1))] 77 (0, 0)) ∧ IMap W (b0 + 1) Value.string (cnt ((words s.data.toList).take k)) ∧
      W.ownsRow (b0 + 3) 9 1 v (once ((words s.data.toList).take k)).length ((once ((words s.data.toList).take k)).map str) ∧ (∀ b, X b ↔ (b = b0 ∨ b = b0 + 1 ∨ b = b0 + 2 ∨ v.ownBlock = some b)))
    (fun c k X W => False)
    ?hI (fun c => ⟨fun _ _ _ _ h _ => h, fun _ _ _ _ h _ => h.elim⟩) (fun b => b = b0 ∨ b = b0 + 1 ∨ b = b0 + 2) (fun b h => ⟨by omega, fun h => h⟩)
    ⟨_, q0, q2, by rw [show cnt (List.take 0 (words s.data.toList)) = fun _ => none from by funext x; simp [cnt]]; exact IMap.new q1, by rw [List.take_zero]; exact World.ownsRow_nil _ _ _ _, fun b => by simp [Value.ownBlock]⟩
    (fun b h => by rcases h with h | h; omega; exact h.elim)
    (fun k => { tmps := #[.string s, undef, .pointer (some ⟨b0, 0, none⟩), .pointer (some ⟨b0 + 1 + 1, 0, none⟩), ((words s.data.toList).map str).getD k undef, .map (some (b0 + 1)), .string s, .func (.func 83) #[] #[.pointer (some ⟨b0 + 1 + 1 + 1, 0, none⟩)], ((words s.data.toList).map str).getD k undef, undef, undef, undef, undef, undef, undef, undef, undef, undef, undef, undef, undef, undef], defers := [] })
    ?assign ?body ?done ?stop
  case hI =>
    refine ⟨?_, ?_⟩
    · rintro k X W W' ⟨v, h1, h2, h3, h4, hx⟩ ho
      exact ⟨v, ho.keep h1 (fun h => h ((hx _).2 (.inl rfl))), ho.keep h2 (fun h => h ((hx _).2 (.inr (.inr (.inl rfl))))), h3.keep (ho.block _ h3.lt (fun h => h ((hx _).2 (.inr (.inl rfl))))),
        own_keep h4 (fun g hg => ho.block g (h4.lt g hg).2 (fun h => h ((hx _).2 (.inr (.inr (.inr hg)))))), hx⟩
    · rintro k X W b ⟨v, h1, h2, h3, h4, hx⟩ hb
      rcases (hx b).1 hb with rfl | rfl | rfl | h
      · exact lt_heap h1
      · exact h3.lt
      · exact lt_heap h2
      · exact (h4.lt _ h).2
  case assign =>
    intro l k hk W K hK
    rw [show ((words s.data.toList).map str).getD k undef = ((words s.data.toList).map str)[k] by rw [List.getD_eq_getElem?_getD, List.getElem?_eq_getElem hk]; rfl] at hK
    generalize ((words s.data.toList).map str)[k] = x at *
    gi_wp2
    exact hK
  case body =>
    rintro l k hk X W ⟨v, h1, h2, h3, h4, hx⟩
    have hk' : k < (words s.data.toList).length := by simpa using hk
    rw [show ((words s.data.toList).map str).getD k undef = str (words s.data.toList)[k] by rw [List.getD_eq_getElem?_getD, List.getElem?_eq_getElem hk]; simp]
    have htk : (words s.data.toList).take (k + 1) = (words s.data.toList).take k ++ [(words s.data.toList)[k]] := List.take_succ_eq_append_getElem hk'
    have hlen : (once ((words s.data.toList).take k)).length ≤ k := Nat.le_trans (once_length _) (List.length_take_le _ _)
    generalize hwk : (words s.data.toList)[k] = wk at *
    obtain ⟨xw, hxw⟩ : ∃ xw : ByteArray, xw = ⟨wk.toArray⟩ := ⟨_, rfl⟩
    rw [show str wk = .string xw by rw [hxw]; rfl]
    have K := string_key (P := Try.prog) (kt := 9) Try.underlying9
    have hlk1 := h3.lookup K (T := 77) Try.underlying77 Try.zeroValue3 xw
    have hrange : 0 ≤ (cnt ((words s.data.toList).take k) xw).getD 0 ∧ (cnt ((words s.data.toList).take k) xw).getD 0 ≤ 4294967281 := by
      unfold cnt
      split
      · have := List.count_le_length (a := xw.data.toList) (l := (words s.data.toList).take k)
        have := List.length_take_le k (words s.data.toList)
        simp only [Option.getD_some]; omega
      · simp
    obtain ⟨o, hup, h3'⟩ := h3.update K (T := 77) Try.underlying77 xw ((cnt ((words s.data.toList).take k) xw).getD 0 + 1)
    have hlk2 := h3'.lookup K (T := 77) Try.underlying77 Try.zeroValue3 xw
    rw [if_pos rfl, Option.getD_some] at hlk2
    have hon := once_snoc' ((words s.data.toList).take k) wk
    rw [← cnt_snoc, ← hxw] at hon
    simp only [if_true, Option.getD_some] at hon
    have h3n : IMap (W.putObj (b0 + 1) o) (b0 + 1) Value.string (cnt ((words s.data.toList).take (k + 1))) := by rw [htk, ← cnt_snoc, ← hxw]; exact h3'
    have hoff : Off X W (W.putObj (b0 + 1) o) := Off.putObj _ _ _ ((hx _).2 (.inr (.inl rfl)))
    generalize hW1 : W.putObj (b0 + 1) o = W1 at *
    have g1 : W1.heap[b0]? = some (.cells #[v] 22 (0, 0)) := by rw [← hW1]; exact (put_other (by omega)).trans h1
    have g2 : W1.heap[b0 + 2]? = some (.cells #[.map (some (b0 + 1))] 77 (0, 0)) := by rw [← hW1]; exact (put_other (by omega)).trans h2
    have g4 : W1.ownsRow (b0 + 3) 9 1 v (once ((words s.data.toList).take k)).length ((once ((words s.data.toList).take k)).map str) := own_keep h4 (fun g hg => by
      rw [← hW1]
      refine put_other ?_
      rcases h4.lt g hg with ⟨h, _⟩
      omega)
    have hcm := cell_of h2
    have hcm1 := cell_of g2
    have hco1 := cell_of g1
    have hfo1 := free_of g1 0
    have hlt1 := lt_heap g2
    generalize hc0 : (cnt ((words s.data.toList).take k) xw).getD 0 = c0 at *
    obtain ⟨hr0, hr1⟩ := hrange
    rw [htk] at h3n ⊢
    have Hon := Lib.hid hon; have H3n := Lib.hid h3n; have Hoff := Lib.hid hoff; have G4 := Lib.hid g4; have G2 := Lib.hid g2; have Hx := Lib.hid hx; have G1 := Lib.hid g1; have Hxw := Lib.hid hxw
    clear hW1 h1 h2 h3 h4 h3' hx htk hon h3n hoff g1 g2 g4 hc0 hxw hwk K
    by_cases h0 : c0 = 0
    · subst h0
      have hon := Hon.out
      rw [if_pos (show ((0 : Int) + 1 = 1) from rfl)] at hon
      have Hon' := Lib.hid hon
      rw [show ((0 : Int) + 1) = 1 from rfl] at hup hlk2
      have hof1 : ∀ w1, W1.grownBy w1 v.ownBlock → w1.heap[b0]? = some (.cells #[v] 22 (0, 0)) ∧ w1.heap[b0 + 2]? = some (.cells #[.map (some (b0 + 1))] 77 (0, 0)) ∧ IMap w1 (b0 + 1) Value.string (cnt ((words s.data.toList).take k ++ [wk])) ∧ Off X W w1 := fun w1 hg => by
        have hne : ∀ b, b < b0 + 3 → some b ≠ v.ownBlock := fun b hb e => by have := (G4.out.lt b e.symm).1; omega
        have ho : Off X W1 w1 := Off.grown hg (fun r e => (Hx.out _).2 (.inr (.inr (.inr e))))
        exact ⟨(hg.block _ (lt_heap G1.out) (hne _ (by omega))).trans G1.out, (hg.block _ (lt_heap G2.out) (hne _ (by omega))).trans G2.out, H3n.out.keep (hg.block _ H3n.out.lt (hne _ (by omega))), Hoff.out.trans ho⟩
      clear hr0 hr1 hon Hon
      gi_wp2_with (gi_at_builtin; (refine in_append W1 (b0 + 3) rfl _ _ 22 9 (.string ⟨#[]⟩) 16 rfl Try.underlying22 info_str rfl v ((once ((words s.data.toList).take k)).map str) (.string xw) rfl rfl rfl (by rw [List.length_map]; exact G4.out) (by omega) (by rw [List.length_map]; omega) (by rw [List.length_map]; simp only [maxLen]; omega) ?_); rintro v1 w1 hown hgrow ⟨g, cap, rfl, hat⟩; have hoff1 := hof1 w1 hgrow; have hr1 := hoff1.1; have hr2 := free_of hoff1.1 0; have hrc := cell_of hoff1.1)
      have hxs : (once ((words s.data.toList).take k)).map str ++ [.string xw] = (once ((words s.data.toList).take k ++ [wk])).map str := by rw [Hon'.out, List.map_append, Hxw.out]; rfl
      rw [hxs] at hown
      have hg3 : b0 + 3 ≤ g := (hown.lt g rfl).1
      refine ⟨fun b => b = b0 ∨ b = b0 + 1 ∨ b = b0 + 2 ∨ b = g, ?_, hoff1.2.2.2.trans (Off.setCell _ _ _ ((Hx.out _).2 (.inl rfl))), _, set_one hoff1.1, (set_other (by omega)).trans hoff1.2.1, hoff1.2.2.1.keep (set_other (by omega)), ?_, fun b => by simp [Value.ownBlock, eq_comm]⟩
      · rintro b (rfl | rfl | rfl | rfl)
        · exact .inl ((Hx.out _).2 (.inl rfl))
        · exact .inl ((Hx.out _).2 (.inr (.inl rfl)))
        · exact .inl ((Hx.out _).2 (.inr (.inr (.inl rfl))))
        · rcases hat with hat | hat
          · exact .inl ((Hx.out _).2 (.inr (.inr (.inr hat))))
          · exact .inr (Nat.le_trans Hoff.out.size hat)
      · have := own_keep (w' := w1.setCell ⟨b0, 0, none⟩ (.slice (some ⟨g, 0, none⟩) (((once ((words s.data.toList).take k)).map str).length + 1) cap)) hown (fun g' hg' => set_other (by
          simp [Value.ownBlock] at hg'; omega))
        simp only [List.length_map] at this ⊢
        exact this
    · have h01 : (c0 + 1 == 1) = false := by rw [beq_eq_false_iff_ne]; omega
      have hon := Hon.out
      rw [if_neg (show ¬ (c0 + 1 = 1) by omega)] at hon
      have Hon' := Lib.hid hon; clear hon
      gi_wp2_with fail
      exact ⟨X, Grew.refl _ _, Hoff.out, v, G1.out, G2.out, H3n.out, by rw [Hon'.out]; exact G4.out, Hx.out⟩
  case done =>
    rintro D X' W hD hXD hgr hof ⟨v, h1, h2, h3, h4, hx⟩ hK
    have hc1 := cell_of h1
    have hf := free_of h1 0
    have hbF : ∀ u, ((W.setCell ⟨b0, 0, none⟩ u).putObj D (.deferred none)).heap[b0]? = some (.cells #[u] 22 (0, 0)) := fun u => (put_other (by omega)).trans (set_one h1)
    obtain ⟨A, n, c, rfl⟩ : ∃ A n c, v = .slice A n c := by
      rcases h4.2 with ⟨rfl, _⟩ | ⟨g, cap, cur, rfl, _⟩
      · exact ⟨_, _, _, rfl⟩
      · exact ⟨_, _, _, rfl⟩
    have H1 := Lib.hid h1; have H4 := Lib.hid h4; have HK := Lib.hid hK; have Hof := Lib.hid hof; have HbF := Lib.hid hbF; have HXD := Lib.hid hXD; have Hx := Lib.hid hx
    clear h1 h2 h3 h4 hx hK hof hgr hbF hXD
    gi_wp2
    refine ⟨by simp, .inl ⟨_, _, rfl, run_takeDeferred ((set_other (by omega)).trans HK.out), ?_⟩⟩
    have hcF := cell_of (HbF.out (.slice A n c))
    refine ⟨.slice A n c, by simp [results, Try.results23, hcF, go_sem], .slice A n c, rfl, ?_, ?_⟩
    · have e : (words s.data.toList).take ((words s.data.toList).map str).length = words s.data.toList := List.take_of_length_le (by simp)
      have h4 := H4.out
      rw [e] at h4
      have hB := Hb0.out
      rw [hB]
      refine own_base (base := b0 + 3) (own_keep h4 (fun g hg => ?_)) (by omega)
      have hg3 := (h4.lt g hg).1
      exact (put_other (fun e => HXD.out (by rw [← e]; exact (Hx.out _).2 (.inr (.inr (.inr hg)))))).trans (set_other (by omega))
    · have b1 := (hbl.trans (Hof.out.toBelow (B := b0) (by omega) (fun b h => by omega))).setCell (p := ⟨b0, 0, none⟩) (by simp) (.slice A n c)
      have hB := Hb0.out
      rw [hB]
      exact b1.trans (Off.toBelow (Y := fun b => b = D) (Off.putObj _ _ _ rfl) (by have := b1.size; omega) (fun b h => by omega))
  case stop => exact fun D c k X' W hk hD hXD hgr hof h _ => h.elim
theorem Tokens_calls (s : ByteArray) (hs : s.size < 4294967281) (w : World) : Calls Try.prog 23 #[.string s] w fun e w' =>
    ∃ v, e = .returned v ∧ RdRow w'.heap.size w' v 1 (once (words s.data.toList)).length ((once (words s.data.toList)).map str) ∧ Below w.heap.size w w' :=
  (Tokens_own s hs w).mono fun e w' ⟨v, he, hv, hb⟩ => ⟨v, he, RdRow.of_own hv, hb⟩
end Go.Proofs.Ytbbompmpecblgaa.WordHas
end
section
/- The statements of the layer word: what their functions answer. -/
namespace Go.Proofs.Ytbbompmpecblgaa.WShown
open Go Go.RowKit Go.Proofs.Ytbbompmpecblgaa.WS Go.Proofs.Ytbbompmpecblgaa.WordIt Go.Proofs.Ytbbompmpecblgaa.Mem Go.Proofs.Ytbbompmpecblgaa.Word
set_option linter.unusedVariables false
set_option linter.unusedSimpArgs false

theorem tok0 : once (words [98, 32, 97, 32, 32, 98]) = [[98], [97]] := by
  rw [words, dif_neg (by decide), show headB (trimB [98, 32, 97, 32, 32, 98]) = [98] from by decide, show tailB (trimB [98, 32, 97, 32, 32, 98]) = [32, 97, 32, 32, 98] from by decide,
    words, dif_neg (by decide), show headB (trimB [32, 97, 32, 32, 98]) = [97] from by decide, show tailB (trimB [32, 97, 32, 32, 98]) = [32, 32, 98] from by decide,
    words, dif_neg (by decide), show headB (trimB [32, 32, 98]) = [98] from by decide, show tailB (trimB [32, 32, 98]) = [] from by decide, words, dif_pos (by decide)]
  decide
theorem has0 : (words [98, 32, 97]).contains [97] = true := by
  rw [words, dif_neg (by decide), show headB (trimB [98, 32, 97]) = [98] from by decide, show tailB (trimB [98, 32, 97]) = [32, 97] from by decide,
    words, dif_neg (by decide), show headB (trimB [32, 97]) = [97] from by decide, show tailB (trimB [32, 97]) = [] from by decide, words, dif_pos (by decide)]
  decide
theorem fold0 (w : World) : Calls Try.prog 24 #[.string ⟨#[65, 98]⟩] w fun e w' => e = .returned (.string ⟨#[97, 98]⟩) ∧ Below w.heap.size w w' :=
  (Fold_calls ⟨#[65, 98]⟩ (by decide) w).mono fun e w' ⟨he, hb⟩ => ⟨by rw [he, show (⟨#[65, 98]⟩ : ByteArray).data.map foldB = #[97, 98] from by apply Array.toList_inj.1; rw [Array.toList_map]; decide], hb⟩
theorem shown_calls (w : World) : Calls Try.prog 19 #[] w fun e w' => e = .returned (.bool true) ∧ Below w.heap.size w w' := by
  go_enter Try.func19, Try.ntmps19
  go_wp2_with fail
  refine (WordHas.Tokens_calls ⟨#[98, 32, 97, 32, 32, 98]⟩ (by decide) _).mono ?_
  rintro e w1 ⟨v, rfl, hv, hb1⟩
  have ht := tok0
  rw [show (⟨#[98, 32, 97, 32, 32, 98]⟩ : ByteArray).data.toList = [98, 32, 97, 32, 32, 98] from rfl, ht] at hv
  obtain ⟨A, c, rfl, hc1, hc2, hc3, hc4⟩ := hv
  obtain ⟨ad, rfl, had, hcell⟩ := hc4 (by simp)
  have hc0 := hcell 0 (str [98]) rfl
  unfold str at hc0
  rw [show ad.add 0 = ad from if_pos rfl] at hc0
  have Hb1 := Lib.hid hb1
  clear ht hc4 hcell hb1 hc3 had
  go_wp2_with (first
    | (go_at_call 21; refine (WordHas.Has_calls _ _ (by decide) _).mono ?_; rintro e w2 ⟨rfl, hb2⟩; rw [show (words (⟨#[98, 32, 97]⟩ : ByteArray).data.toList).contains (⟨#[97]⟩ : ByteArray).data.toList = true from has0])
    | (go_at_call 24; refine (fold0 _).mono ?_; rintro e w3 ⟨rfl, hb3⟩)
    | (go_at_call 26; refine (Text_calls _ _).mono ?_; rintro e w4 ⟨rfl, rfl⟩; rw [show textB (⟨#[]⟩ : ByteArray).data.toList = true from by decide])
    | (go_at_call 25; with_reducible refine (Name_calls ⟨#[97, 45, 49]⟩ _).mono ?_; rintro e w5 ⟨rfl, rfl⟩; rw [show nameB (⟨#[97, 45, 49]⟩ : ByteArray).data.toList = true from by decide])
    | (go_at_call 25; with_reducible refine (Name_calls ⟨#[49, 97]⟩ _).mono ?_; rintro e w6 ⟨rfl, rfl⟩; rw [show nameB (⟨#[49, 97]⟩ : ByteArray).data.toList = false from by decide]))
  go_ret
  exact ⟨rfl, (Hb1.out.trans (hb2.mono Hb1.out.size)).trans (hb3.mono (Nat.le_trans Hb1.out.size hb2.size))⟩

theorem foldB_twice (b : UInt8) : foldB (foldB b) = foldB b := by
  have key : ∀ n : Fin 256, foldB (foldB (UInt8.ofNat n.val)) = foldB (UInt8.ofNat n.val) := by decide +kernel
  have := key ⟨b.toNat, b.toNat_lt⟩
  simpa using this
theorem foldB_mark (b : UInt8) : markB (foldB b) = markB b ∧ letterB (foldB b) = letterB b := by
  have key : ∀ n : Fin 256, markB (foldB (UInt8.ofNat n.val)) = markB (UInt8.ofNat n.val) ∧ letterB (foldB (UInt8.ofNat n.val)) = letterB (UInt8.ofNat n.val) := by decide +kernel
  have := key ⟨b.toNat, b.toNat_lt⟩
  simpa using this
theorem name_fold (l : List UInt8) : nameB (l.map foldB) = nameB l := by
  unfold nameB
  congr 1
  · congr 1
    · simp
    · cases l with
      | nil => rfl
      | cons b l => simp [(foldB_mark b).2]
  · rw [List.all_map]
    congr 1
    funext b
    exact (foldB_mark b).1
set_option maxHeartbeats 800000 in
theorem WordFolds_calls (s : ByteArray) (w : World) : Calls Try.prog 4 #[.string s] w fun e w' => e = .returned (.bool true) ∧ Below w.heap.size w w' := by
  by_cases hs : 300 < s.size
  · go_enter Try.func4, Try.ntmps4
    go_wp2_with (go_at_call 19; refine (shown_calls _).mono ?_; rintro e w2 ⟨rfl, hb2⟩)
    go_ret
    exact ⟨rfl, hb2⟩
  · obtain ⟨t, ht⟩ : ∃ t : ByteArray, t = ⟨s.data.map foldB⟩ := ⟨_, rfl⟩
    have htl : t.data.toList = s.data.toList.map foldB := by rw [ht, Array.toList_map]
    have hts : t.size = s.size := by rw [Lib.size_eq, htl, List.length_map, ← Lib.size_eq]
    have htt : (⟨t.data.map foldB⟩ : ByteArray) = t := by
      apply ByteArray.ext
      apply Array.toList_inj.1
      rw [Array.toList_map, htl, List.map_map]
      congr 1
      funext b
      exact foldB_twice b
    have hn : nameB t.data.toList = nameB s.data.toList := by rw [htl, name_fold]
    have hsz : (s.size : Int) = (t.size : Int) := by rw [hts]
    have F1 : ∀ w, Calls Try.prog 24 #[.string s] w fun e w' => e = .returned (.string t) ∧ Below w.heap.size w w' := fun w => by rw [ht]; exact Fold_calls s (by omega) w
    have F2 : ∀ w, Calls Try.prog 24 #[.string t] w fun e w' => e = .returned (.string t) ∧ Below w.heap.size w w' := fun w => by
      have := Fold_calls t (by omega) w; rw [htt] at this; exact this
    have hl1 : ((t.size : Int) == (s.size : Int)) = true := by rw [hsz]; simp
    clear ht htl htt hsz
    generalize hnn : nameB s.data.toList = nn at *
    have Hn := Lib.hid hn; have Hnn := Lib.hid hnn; have Hts := Lib.hid hts
    have G1 : ∀ w, Calls Try.prog 25 #[.string s] w fun e w' => e = .returned (.bool nn) ∧ w = w' := fun w => by have := Name_calls s w; rw [hnn] at this; exact this
    have G2 : ∀ w, Calls Try.prog 25 #[.string t] w fun e w' => e = .returned (.bool nn) ∧ w = w' := fun w => by have := Name_calls t w; rw [hn] at this; exact this
    have HF1 := Lib.hid F1; have HF2 := Lib.hid F2; have HG1 := Lib.hid G1; have HG2 := Lib.hid G2
    clear hn hnn hts F1 F2 G1 G2
    go_enter Try.func4, Try.ntmps4
    go_wp2_with (first
      | (go_at_call 19; refine (shown_calls _).mono ?_; rintro e w2 ⟨rfl, hb2⟩)
      | (go_at_call 24; with_reducible refine (HF1.out _).mono ?_; rintro e w3 ⟨rfl, hb3⟩)
      | (go_at_call 24; with_reducible refine (HF2.out _).mono ?_; rintro e w4 ⟨rfl, hb4⟩)
      | (go_at_call 25; with_reducible refine (HG1.out _).mono ?_; rintro e w5 ⟨rfl, rfl⟩)
      | (go_at_call 25; with_reducible refine (HG2.out _).mono ?_; rintro e w5 ⟨rfl, rfl⟩))
    go_ret
    exact ⟨rfl, bthen (bthen hb2 hb3) hb4⟩
end Go.Proofs.Ytbbompmpecblgaa.WShown
end
section
/- forest.attributes, (Node).plain. -/
namespace Go.Proofs.Ytbbompmpecblgaa.FAttr
open Go Go.RowKit Go.Proofs.Ytbbompmpecblgaa.Seq Go.Proofs.Ytbbompmpecblgaa.WS Go.Proofs.Ytbbompmpecblgaa.FS Go.Proofs.Ytbbompmpecblgaa.WordIt Go.Proofs.Ytbbompmpecblgaa.Mem Go.Proofs.Ytbbompmpecblgaa.Rd Go.Proofs.Ytbbompmpecblgaa.Word Go.Proofs.Ytbbompmpecblgaa.WordHas Go.Proofs.Ytbbompmpecblgaa.Shapes
set_option linter.unusedVariables false
set_option linter.unusedSimpArgs false

theorem attr_at {B : Nat} {w : World} {A : Option Addr} {n c : Nat} {l : List Av} (h : RdL attrE 2 B w (.slice A n c) l) {i : Nat} (hi : i < l.length) :
    ∃ b o : Nat, A = some ⟨b, o, none⟩ ∧ b < B ∧ w.cell? ⟨b, o + i * 2, none⟩ = some (.string l[i].name) ∧ w.cell? ⟨b, o + i * 2 + 1, none⟩ = some (.string l[i].value) ∧ l[i].name.size ≤ maxLen ∧ l[i].value.size ≤ maxLen := by
  obtain ⟨b, o, cs, e, hlt, hl, hc, rfl, hm, hm2⟩ := h.at_ hi
  exact ⟨b, o, e, hlt, hc 0 _ rfl, hc 1 _ rfl, hm, hm2⟩
def nms (l : List Av) : List (List UInt8) := l.map (·.name.data.toList)
theorem attrs_dup {l : List Av} {k : Nat} (hk : k < l.length) (hm : l[k].name.data.toList ∈ nms (l.take k)) : attrsB l = false := by
  unfold attrsB
  have : ¬ (l.map (·.name.data.toList)).Nodup := by
    intro hn
    have e : l.map (·.name.data.toList) = nms (l.take k) ++ (l[k].name.data.toList :: nms (l.drop (k + 1))) := by
      have h0 : l = l.take k ++ l[k] :: l.drop (k + 1) := by rw [← List.drop_eq_getElem_cons hk, List.take_append_drop]
      calc l.map (·.name.data.toList) = (l.take k ++ l[k] :: l.drop (k + 1)).map (·.name.data.toList) := by rw [← h0]
        _ = _ := by rw [List.map_append, List.map_cons]; rfl
    rw [e, List.nodup_append] at hn
    exact hn.2.2 _ hm _ (by simp) rfl
  rw [decide_eq_false this]
  simp
theorem attrs_bad {l : List Av} {k : Nat} (hk : k < l.length) (h : (nameB l[k].name.data.toList && textB l[k].value.data.toList) = false) : attrsB l = false := by
  unfold attrsB
  have : l.all (fun a => nameB a.name.data.toList && textB a.value.data.toList) = false := by
    rw [List.all_eq_false]
    exact ⟨l[k], List.getElem_mem _, by rw [h]; simp⟩
  rw [this]
  simp
theorem attrs_end {l : List Av} (h1 : (nms l).Nodup) (h2 : ∀ a ∈ l, nameB a.name.data.toList = true ∧ textB a.value.data.toList = true) : attrsB l = decide (l.length ≤ 8) := by
  unfold attrsB
  rw [List.all_eq_true.2 (fun a ha => by rw [(h2 a ha).1, (h2 a ha).2]; rfl), decide_eq_true (show (l.map (·.name.data.toList)).Nodup from h1)]
  simp
set_option maxRecDepth 100000 in
set_option maxHeartbeats 2000000 in
theorem attributes_calls (w : World) (v : Value) (l : List Av) (h : RdL attrE 2 w.heap.size w v l) : Calls Try.prog 87 #[v] w fun e w' => e = .returned (.bool (attrsB l)) ∧ Below w.heap.size w w' := by
  have HR := Lib.hid (fun w' hb => h.below attrE_keeps (w' := w') hb (Nat.le_refl _))
  obtain ⟨A0, c0, rfl, hl0, hc0, _⟩ := h.form
  simp only [maxLen] at hc0
  have hmm := @run_makeMap Try.prog
  clear h
  go_enter Try.func87, Try.ntmps87
  go_wp2
  clear hmm
  have hm0 : IMap (w.alloc (.map #[] 0)) w.heap.size Value.string (cnt (nms (l.take 0))) := by
    rw [show cnt (nms (l.take 0)) = fun _ => none from by funext x; simp [cnt, nms]]
    exact IMap.new (heap_new rfl)
  have hb0 := (Below.refl w.heap.size w).alloc (Nat.le_refl _) (.map #[] 0)
  generalize hW0 : w.alloc (.map #[] 0) = W0 at *
  have Hm0 := Lib.hid hm0; have Hb0 := Lib.hid hb0
  clear hm0 hb0 hW0
  go_loopw [9] (fun i wr => ∃ k : Nat, k ≤ l.length ∧ i = .int .i64 k ∧ IMap wr w.heap.size Value.string (cnt (nms (l.take k))) ∧ Below w.heap.size w wr ∧ (nms (l.take k)).Nodup ∧ (∀ a ∈ l.take k, nameB a.name.data.toList = true ∧ textB a.value.data.toList = true)) (fun i _ => l.length - (intOf i).toNat)
  case atStart => exact ⟨0, Nat.zero_le _, rfl, Hm0.out, Hb0.out, by simp [nms], by simp⟩
  case round =>
    obtain ⟨k, hk, rfl, h1, h2, h3, h4⟩ := hrel
    by_cases hlt : k < l.length
    · obtain ⟨b, o, rfl, hbl, g0, g1, m0, m1⟩ := attr_at (HR.out _ h2) hlt
      have K := string_key (P := Try.prog) (kt := 9) Try.underlying9
      have ha1 : IMap (wr.alloc (.cells #[.string l[k].name, .string l[k].value] 80)) w.heap.size Value.string (cnt (nms (l.take k))) := h1.keep (Below.heap_alloc _ _ _ h1.lt)
      have hlk1 := ha1.lookup K (T := 77) Try.underlying77 Try.zeroValue3 l[k].name
      obtain ⟨ob, hup, ha2⟩ := ha1.update K (T := 77) Try.underlying77 l[k].name ((cnt (nms (l.take k)) l[k].name).getD 0 + 1)
      have hlk2 := ha2.lookup K (T := 77) Try.underlying77 Try.zeroValue3 l[k].name
      rw [if_pos rfl, Option.getD_some] at hlk2
      have hce : (⟨l[k].name.data.toList.toArray⟩ : ByteArray) = l[k].name := by rw [Array.toArray_toList]
      have hsn := cnt_snoc (nms (l.take k)) l[k].name.data.toList
      rw [hce] at hsn
      rw [hsn, show nms (l.take k) ++ [l[k].name.data.toList] = nms (l.take (k + 1)) by unfold nms; rw [List.take_succ_eq_append_getElem hlt, List.map_append]; rfl] at ha2
      have hlb : w.heap.size < wr.heap.size := h1.lt
      have hne : wr.heap.size ≠ w.heap.size := by omega
      have hg : ((wr.alloc (.cells #[.string l[k].name, .string l[k].value] 80)).putObj w.heap.size ob).heap[wr.heap.size]? = some (.cells #[.string l[k].name, .string l[k].value] 80 (0, 0)) := (put_other hne).trans (heap_new rfl)
      have hbl : Below w.heap.size w ((wr.alloc (.cells #[.string l[k].name, .string l[k].value] 80)).putObj w.heap.size ob) := (h2.alloc h2.size _).trans (Off.toBelow (Y := fun b => b = w.heap.size) (Off.putObj _ _ _ rfl) (by simp; omega) (fun b hb => by omega))
      generalize (wr.alloc (.cells #[.string l[k].name, .string l[k].value] 80)).putObj w.heap.size ob = W2 at *
      have gn : W2.cell? ⟨wr.heap.size, 0, none⟩ = some (.string l[k].name) := by rw [cell_of_row _ _ _ _ _ _ hg]; rfl
      have gv : W2.cell? ⟨wr.heap.size, 1, none⟩ = some (.string l[k].value) := by rw [cell_of_row _ _ _ _ _ _ hg]; rfl
      have hcn : (l[k].name.data.toList ∈ nms (l.take k) ∧ 1 ≤ (cnt (nms (l.take k)) l[k].name).getD 0 ∧ (cnt (nms (l.take k)) l[k].name).getD 0 ≤ k) ∨ (l[k].name.data.toList ∉ nms (l.take k) ∧ (cnt (nms (l.take k)) l[k].name).getD 0 = 0) := by
        unfold cnt
        by_cases hm : l[k].name.data.toList ∈ nms (l.take k)
        · left
          rw [if_pos hm]
          have h5 := List.count_pos_iff.2 hm
          have h6 := List.count_le_length (a := l[k].name.data.toList) (l := nms (l.take k))
          have h7 : (nms (l.take k)).length ≤ k := by unfold nms; rw [List.length_map]; exact List.length_take_le _ _
          simp only [Option.getD_some]
          exact ⟨hm, by omega, by omega⟩
        · right
          rw [if_neg hm]
          exact ⟨hm, rfl⟩
      generalize (cnt (nms (l.take k)) l[k].name).getD 0 = cn at *
      have hN : ∀ w, Calls Try.prog 25 #[.string l[k].name] w fun e w' => e = .returned (.bool (nameB l[k].name.data.toList)) ∧ w = w' := fun w => Name_calls _ w
      have hT : ∀ w, Calls Try.prog 26 #[.string l[k].value] w fun e w' => e = .returned (.bool (textB l[k].value.data.toList)) ∧ w = w' := fun w => Text_calls _ w
      have HN := Lib.hid hN; have HT := Lib.hid hT; have Ha2 := Lib.hid ha2; have Hbl := Lib.hid hbl
      have H3 := Lib.hid h3; have H4 := Lib.hid h4
      clear h1 h2 h3 h4 ha1 ha2 hsn hce K hg hbl hN hT hne
      rcases hcn with ⟨hm, c1, c2⟩ | ⟨hm, rfl⟩
      · have Hm := Lib.hid hm; clear hm
        go_wp2_with fail
        go_ret
        exact ⟨ret_bool ((attrs_dup hlt Hm.out).symm), Hbl.out⟩
      · have Hm := Lib.hid hm; clear hm
        rw [Int.zero_add] at hup hlk2
        cases hn : nameB l[k].name.data.toList with
        | false =>
          rw [hn] at HN
          have Hn := Lib.hid hn; clear hn
          go_wp2_with (go_at_call 25; refine (HN.out _).mono ?_; rintro e w5 ⟨rfl, rfl⟩)
          go_ret
          exact ⟨ret_bool ((attrs_bad hlt (by rw [Hn.out]; rfl)).symm), Hbl.out⟩
        | true =>
          rw [hn] at HN
          have Hn := Lib.hid hn; clear hn
          cases ht : textB l[k].value.data.toList with
          | false =>
            rw [ht] at HT
            have Ht := Lib.hid ht; clear ht
            go_wp2_with (first | (go_at_call 25; refine (HN.out _).mono ?_; rintro e w5 ⟨rfl, rfl⟩) | (go_at_call 26; refine (HT.out _).mono ?_; rintro e w5 ⟨rfl, rfl⟩))
            go_ret
            exact ⟨ret_bool ((attrs_bad hlt (by rw [Hn.out, Ht.out]; rfl)).symm), Hbl.out⟩
          | true =>
            rw [ht] at HT
            have Ht := Lib.hid ht; clear ht
            go_wp2_with (first | (go_at_call 25; refine (HN.out _).mono ?_; rintro e w5 ⟨rfl, rfl⟩) | (go_at_call 26; refine (HT.out _).mono ?_; rintro e w5 ⟨rfl, rfl⟩))
            go_roundw
            case rel =>
              refine ⟨k + 1, by omega, by go_num, Ha2.out, Hbl.out, ?_, ?_⟩
              · rw [List.take_succ_eq_append_getElem hlt]
                unfold nms
                rw [List.map_append, List.nodup_append]
                refine ⟨H3.out, by simp, fun a ha b hb e => ?_⟩
                simp at hb
                subst e
                exact Hm.out (by rw [← hb]; exact ha)
              · intro a ha
                rw [List.take_succ_eq_append_getElem hlt, List.mem_append] at ha
                rcases ha with ha | ha
                · exact H4.out a ha
                · simp at ha
                  subst ha
                  exact ⟨Hn.out, Ht.out⟩
            case measure => simp [intOf]; omega
    · obtain rfl : k = l.length := by omega
      have H2 := Lib.hid h2
      rw [List.take_length] at h3 h4
      have H3 := Lib.hid h3; have H4 := Lib.hid h4
      clear h1 h2 h3 h4
      go_wp2
      go_ret
      exact ⟨ret_bool (by rw [attrs_end H3.out H4.out]; simp; try omega), H2.out⟩
end Go.Proofs.Ytbbompmpecblgaa.FAttr
end
