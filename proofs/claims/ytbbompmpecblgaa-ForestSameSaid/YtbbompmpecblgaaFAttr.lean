/- forest.attributes, (Node).plain. -/
import Derived.Test.YtbbompmpecblgaaShapes
import Derived.Test.YtbbompmpecblgaaWShown
namespace Go.Proofs.Ytbbompmpecblgaa.FAttr
open Go Go.RowKit Go.Proofs.Ytbbompmpecblgaa.Seq Go.Proofs.Ytbbompmpecblgaa.WS Go.Proofs.Ytbbompmpecblgaa.FS Go.Proofs.Ytbbompmpecblgaa.WordIt Go.Proofs.Ytbbompmpecblgaa.Mem Go.Proofs.Ytbbompmpecblgaa.Rd Go.Proofs.Ytbbompmpecblgaa.Word Go.Proofs.Ytbbompmpecblgaa.WordHas Go.Proofs.Ytbbompmpecblgaa.Shapes
set_option linter.unusedVariables false
set_option linter.unusedSimpArgs false

theorem attr_at {B : Nat} {w : World} {A : Option Addr} {n c : Nat} {l : List Av} (h : RdL attrE 2 B w (.slice A n c) l) {i : Nat} (hi : i < l.length) :
    ∃ b o : Nat, A = some ⟨b, o, none⟩ ∧ b < B ∧ w.cell? ⟨b, o + i * 2, none⟩ = some (.string l[i].name) ∧ w.cell? ⟨b, o + i * 2 + 1, none⟩ = some (.string l[i].value) ∧ l[i].name.size ≤ maxLen ∧ l[i].value.size ≤ maxLen := by
  obtain ⟨b, o, cs, e, hlt, hl, hc, rfl, hm, hm2⟩ := h.at_ hi
  exact ⟨b, o, e, hlt, hc 0 _ rfl, hc 1 _ rfl, hm, hm2⟩
def nms (l : List Av) : List (List UInt8) := l.map (·.name.data.toList)
theorem attrs_dup {l : List Av} {k : Nat} (hk : k < l.length) (hm : l[k].name.data.toList ∈ nms (l.take k)) : attrsB l = false := by
  unfold attrsB
  have : ¬ (l.map (·.name.data.toList)).Nodup := by
    intro hn
    have e : l.map (·.name.data.toList) = nms (l.take k) ++ (l[k].name.data.toList :: nms (l.drop (k + 1))) := by
      have h0 : l = l.take k ++ l[k] :: l.drop (k + 1) := by rw [← List.drop_eq_getElem_cons hk, List.take_append_drop]
      calc l.map (·.name.data.toList) = (l.take k ++ l[k] :: l.drop (k + 1)).map (·.name.data.toList) := by rw [← h0]
        _ = _ := by rw [List.map_append, List.map_cons]; rfl
    rw [e, List.nodup_append] at hn
    exact hn.2.2 _ hm _ (by simp) rfl
  rw [decide_eq_false this]
  simp
theorem attrs_bad {l : List Av} {k : Nat} (hk : k < l.length) (h : (nameB l[k].name.data.toList && textB l[k].value.data.toList) = false) : attrsB l = false := by
  unfold attrsB
  have : l.all (fun a => nameB a.name.data.toList && textB a.value.data.toList) = false := by
    rw [List.all_eq_false]
    exact ⟨l[k], List.getElem_mem _, by rw [h]; simp⟩
  rw [this]
  simp
theorem attrs_end {l : List Av} (h1 : (nms l).Nodup) (h2 : ∀ a ∈ l, nameB a.name.data.toList = true ∧ textB a.value.data.toList = true) : attrsB l = decide (l.length ≤ 8) := by
  unfold attrsB
  rw [List.all_eq_true.2 (fun a ha => by rw [(h2 a ha).1, (h2 a ha).2]; rfl), decide_eq_true (show (l.map (·.name.data.toList)).Nodup from h1)]
  simp
set_option maxRecDepth 100000 in
set_option maxHeartbeats 2000000 in
theorem attributes_calls (w : World) (v : Value) (l : List Av) (h : RdL attrE 2 w.heap.size w v l) : Calls Try.prog 87 #[v] w fun e w' => e = .returned (.bool (attrsB l)) ∧ Below w.heap.size w w' := by
  have HR := Lib.hid (fun w' hb => h.below attrE_keeps (w' := w') hb (Nat.le_refl _))
  obtain ⟨A0, c0, rfl, hl0, hc0, _⟩ := h.form
  simp only [maxLen] at hc0
  have hmm := @run_makeMap Try.prog
  clear h
  go_enter Try.func87, Try.ntmps87
  go_wp2
  clear hmm
  have hm0 : IMap (w.alloc (.map #[] 0)) w.heap.size Value.string (cnt (nms (l.take 0))) := by
    rw [show cnt (nms (l.take 0)) = fun _ => none from by funext x; simp [cnt, nms]]
    exact IMap.new (heap_new rfl)
  have hb0 := (Below.refl w.heap.size w).alloc (Nat.le_refl _) (.map #[] 0)
  generalize hW0 : w.alloc (.map #[] 0) = W0 at *
  have Hm0 := Lib.hid hm0; have Hb0 := Lib.hid hb0
  clear hm0 hb0 hW0
  go_loopw [9] (fun i wr => ∃ k : Nat, k ≤ l.length ∧ i = .int .i64 k ∧ IMap wr w.heap.size Value.string (cnt (nms (l.take k))) ∧ Below w.heap.size w wr ∧ (nms (l.take k)).Nodup ∧ (∀ a ∈ l.take k, nameB a.name.data.toList = true ∧ textB a.value.data.toList = true)) (fun i _ => l.length - (intOf i).toNat)
  case atStart => exact ⟨0, Nat.zero_le _, rfl, Hm0.out, Hb0.out, by simp [nms], by simp⟩
  case round =>
    obtain ⟨k, hk, rfl, h1, h2, h3, h4⟩ := hrel
    by_cases hlt : k < l.length
    · obtain ⟨b, o, rfl, hbl, g0, g1, m0, m1⟩ := attr_at (HR.out _ h2) hlt
      have K := string_key (P := Try.prog) (kt := 9) Try.underlying9
      have ha1 : IMap (wr.alloc (.cells #[.string l[k].name, .string l[k].value] 80)) w.heap.size Value.string (cnt (nms (l.take k))) := h1.keep (Below.heap_alloc _ _ _ h1.lt)
      have hlk1 := ha1.lookup K (T := 77) Try.underlying77 Try.zeroValue3 l[k].name
      obtain ⟨ob, hup, ha2⟩ := ha1.update K (T := 77) Try.underlying77 l[k].name ((cnt (nms (l.take k)) l[k].name).getD 0 + 1)
      have hlk2 := ha2.lookup K (T := 77) Try.underlying77 Try.zeroValue3 l[k].name
      rw [if_pos rfl, Option.getD_some] at hlk2
      have hce : (⟨l[k].name.data.toList.toArray⟩ : ByteArray) = l[k].name := by rw [Array.toArray_toList]
      have hsn := cnt_snoc (nms (l.take k)) l[k].name.data.toList
      rw [hce] at hsn
      rw [hsn, show nms (l.take k) ++ [l[k].name.data.toList] = nms (l.take (k + 1)) by unfold nms; rw [List.take_succ_eq_append_getElem hlt, List.map_append]; rfl] at ha2
      have hlb : w.heap.size < wr.heap.size := h1.lt
      have hne : wr.heap.size ≠ w.heap.size := by omega
      have hg : ((wr.alloc (.cells #[.string l[k].name, .string l[k].value] 80)).putObj w.heap.size ob).heap[wr.heap.size]? = some (.cells #[.string l[k].name, .string l[k].value] 80 (0, 0)) := (put_other hne).trans (heap_new rfl)
      have hbl : Below w.heap.size w ((wr.alloc (.cells #[.string l[k].name, .string l[k].value] 80)).putObj w.heap.size ob) := (h2.alloc h2.size _).trans (Off.toBelow (Y := fun b => b = w.heap.size) (Off.putObj _ _ _ rfl) (by simp; omega) (fun b hb => by omega))
      generalize (wr.alloc (.cells #[.string l[k].name, .string l[k].value] 80)).putObj w.heap.size ob = W2 at *
      have gn : W2.cell? ⟨wr.heap.size, 0, none⟩ = some (.string l[k].name) := by rw [cell_of_row _ _ _ _ _ _ hg]; rfl
      have gv : W2.cell? ⟨wr.heap.size, 1, none⟩ = some (.string l[k].value) := by rw [cell_of_row _ _ _ _ _ _ hg]; rfl
      have hcn : (l[k].name.data.toList ∈ nms (l.take k) ∧ 1 ≤ (cnt (nms (l.take k)) l[k].name).getD 0 ∧ (cnt (nms (l.take k)) l[k].name).getD 0 ≤ k) ∨ (l[k].name.data.toList ∉ nms (l.take k) ∧ (cnt (nms (l.take k)) l[k].name).getD 0 = 0) := by
        unfold cnt
        by_cases hm : l[k].name.data.toList ∈ nms (l.take k)
        · left
          rw [if_pos hm]
          have h5 := List.count_pos_iff.2 hm
          have h6 := List.count_le_length (a := l[k].name.data.toList) (l := nms (l.take k))
          have h7 : (nms (l.take k)).length ≤ k := by unfold nms; rw [List.length_map]; exact List.length_take_le _ _
          simp only [Option.getD_some]
          exact ⟨hm, by omega, by omega⟩
        · right
          rw [if_neg hm]
          exact ⟨hm, rfl⟩
      generalize (cnt (nms (l.take k)) l[k].name).getD 0 = cn at *
      have hN : ∀ w, Calls Try.prog 25 #[.string l[k].name] w fun e w' => e = .returned (.bool (nameB l[k].name.data.toList)) ∧ w = w' := fun w => Name_calls _ w
      have hT : ∀ w, Calls Try.prog 26 #[.string l[k].value] w fun e w' => e = .returned (.bool (textB l[k].value.data.toList)) ∧ w = w' := fun w => Text_calls _ w
      have HN := Lib.hid hN; have HT := Lib.hid hT; have Ha2 := Lib.hid ha2; have Hbl := Lib.hid hbl
      have H3 := Lib.hid h3; have H4 := Lib.hid h4
      clear h1 h2 h3 h4 ha1 ha2 hsn hce K hg hbl hN hT hne
      rcases hcn with ⟨hm, c1, c2⟩ | ⟨hm, rfl⟩
      · have Hm := Lib.hid hm; clear hm
        go_wp2_with fail
        go_ret
        exact ⟨ret_bool ((attrs_dup hlt Hm.out).symm), Hbl.out⟩
      · have Hm := Lib.hid hm; clear hm
        rw [Int.zero_add] at hup hlk2
        cases hn : nameB l[k].name.data.toList with
        | false =>
          rw [hn] at HN
          have Hn := Lib.hid hn; clear hn
          go_wp2_with (go_at_call 25; refine (HN.out _).mono ?_; rintro e w5 ⟨rfl, rfl⟩)
          go_ret
          exact ⟨ret_bool ((attrs_bad hlt (by rw [Hn.out]; rfl)).symm), Hbl.out⟩
        | true =>
          rw [hn] at HN
          have Hn := Lib.hid hn; clear hn
          cases ht : textB l[k].value.data.toList with
          | false =>
            rw [ht] at HT
            have Ht := Lib.hid ht; clear ht
            go_wp2_with (first | (go_at_call 25; refine (HN.out _).mono ?_; rintro e w5 ⟨rfl, rfl⟩) | (go_at_call 26; refine (HT.out _).mono ?_; rintro e w5 ⟨rfl, rfl⟩))
            go_ret
            exact ⟨ret_bool ((attrs_bad hlt (by rw [Hn.out, Ht.out]; rfl)).symm), Hbl.out⟩
          | true =>
            rw [ht] at HT
            have Ht := Lib.hid ht; clear ht
            go_wp2_with (first | (go_at_call 25; refine (HN.out _).mono ?_; rintro e w5 ⟨rfl, rfl⟩) | (go_at_call 26; refine (HT.out _).mono ?_; rintro e w5 ⟨rfl, rfl⟩))
            go_roundw
            case rel =>
              refine ⟨k + 1, by omega, by go_num, Ha2.out, Hbl.out, ?_, ?_⟩
              · rw [List.take_succ_eq_append_getElem hlt]
                unfold nms
                rw [List.map_append, List.nodup_append]
                refine ⟨H3.out, by simp, fun a ha b hb e => ?_⟩
                simp at hb
                subst e
                exact Hm.out (by rw [← hb]; exact ha)
              · intro a ha
                rw [List.take_succ_eq_append_getElem hlt, List.mem_append] at ha
                rcases ha with ha | ha
                · exact H4.out a ha
                · simp at ha
                  subst ha
                  exact ⟨Hn.out, Ht.out⟩
            case measure => simp [intOf]; omega
    · obtain rfl : k = l.length := by omega
      have H2 := Lib.hid h2
      rw [List.take_length] at h3 h4
      have H3 := Lib.hid h3; have H4 := Lib.hid h4
      clear h1 h2 h3 h4
      go_wp2
      go_ret
      exact ⟨ret_bool (by rw [attrs_end H3.out H4.out]; simp; try omega), H2.out⟩
end Go.Proofs.Ytbbompmpecblgaa.FAttr
