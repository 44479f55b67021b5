/- WordTokens: the law's walk. -/
import Derived.Test.YtbbompmpecblgaaWTokens
namespace Go.Proofs.Ytbbompmpecblgaa.WTLaw
open Go Go.RowKit Go.Proofs.Ytbbompmpecblgaa.Seq Go.Proofs.Ytbbompmpecblgaa.WS Go.Proofs.Ytbbompmpecblgaa.WordIt Go.Proofs.Ytbbompmpecblgaa.Mem Go.Proofs.Ytbbompmpecblgaa.Rd Go.Proofs.Ytbbompmpecblgaa.Word Go.Proofs.Ytbbompmpecblgaa.WShown Go.Proofs.Ytbbompmpecblgaa.WTokens
set_option linter.unusedVariables false
set_option linter.unusedSimpArgs false

def inB (l : List ByteArray) (x : ByteArray) (k : Nat) : Bool := (l.take k).any (fun y => y.toList == x.toList)
theorem inB_succ {l : List ByteArray} {x : ByteArray} {k : Nat} (hk : k < l.length) : inB l x (k + 1) = (inB l x k || (l[k].toList == x.toList)) := by
  unfold inB
  rw [List.take_succ_eq_append_getElem hk, List.any_append]
  simp
/-- The words wanted so far. -/
def want (l : List ByteArray) (i : Nat) : List (List UInt8) := once ((l.take i).map (·.data.toList))
theorem want_succ {l : List ByteArray} {i : Nat} (hi : i < l.length) : want l (i + 1) = if inB l l[i] i then want l i else want l i ++ [l[i].data.toList] := by
  unfold want
  rw [List.take_succ_eq_append_getElem hi, List.map_append, List.map_cons, List.map_nil, once_snoc]
  have : l[i].data.toList ∈ once ((l.take i).map (·.data.toList)) ↔ inB l l[i] i = true := by
    rw [mem_once]
    unfold inB
    simp only [List.mem_map, List.any_eq_true, beq_iff_eq, Lib.toList_data]
  by_cases h : inB l l[i] i = true
  · rw [if_pos (this.2 h), if_pos h]
  · rw [if_neg (fun hh => h (this.1 hh)), if_neg h]
theorem want_length (l : List ByteArray) (i : Nat) : (want l i).length ≤ i := Nat.le_trans (once_length _) (by simp; omega)

theorem grown_below {w W w7 : World} {B : Nat} {e : TypeId} {v : Value} {n : Nat} {xs : List Value} (h : Below w.heap.size w W) (hg : W.grownBy w7 v.ownBlock) (hown : W.ownsRow B e 1 v n xs) (hB : w.heap.size ≤ B) : Below w.heap.size w w7 :=
  h.trans ((Off.grown (Y := fun b => B ≤ b) hg (fun r hr => (hown.lt r hr).1)).toBelow h.size (fun b hb => Nat.le_trans hB hb))

set_option maxRecDepth 100000 in
set_option maxHeartbeats 8000000 in
theorem WordTokens_calls (l : List ByteArray) (by_ : List Int) (v0 v1 : Value) (w : World) (h0 : RdL strE 1 w.heap.size w v0 l) (h1 : RdL (intE .u8) 1 w.heap.size w v1 by_) :
    Calls Try.prog 3 #[v0, v1] w fun e w' => e = .returned (.bool true) ∧ Below w.heap.size w w' := by
  have HR0 := Lib.hid (fun w' hb => h0.below strE_keeps (w' := w') hb (Nat.le_refl _))
  have HR1 := Lib.hid (fun w' hb => h1.below (intE_keeps _) (w' := w') hb (Nat.le_refl _))
  obtain ⟨A0, c0, rfl, hl0, hc0, _⟩ := h0.form
  obtain ⟨A1, c1, rfl, hl1, hc1, _⟩ := h1.form
  simp only [maxLen] at hc0 hc1
  clear h0 h1
  by_cases hs : 40 < l.length
  · go_enter Try.func3, Try.ntmps3
    go_wp2_with (go_at_call 19; refine (shown_calls _).mono ?_; rintro e w2 ⟨rfl, hb2⟩)
    go_ret
    exact ⟨rfl, hb2⟩
  · go_enter Try.func3, Try.ntmps3
    go_wp2_with (go_at_call 19; refine (shown_calls _).mono ?_; rintro e w2 ⟨rfl, hb2⟩)
    have Hb2 := Lib.hid hb2; clear hb2
    go_loopw [5, 6, 7] (fun s v i wr => ∃ k : Nat, k ≤ l.length ∧ i = .int .i64 k ∧ s = .string (txt l by_ k) ∧ wr.ownsRow w2.heap.size 9 1 v (want l k).length ((want l k).map str) ∧ Below w.heap.size w wr ∧ w2.heap.size ≤ wr.heap.size ∧ (∀ j (hj : j < l.length), j < k → nameB l[j].data.toList = true)) (fun _ _ i _ => l.length - (intOf i).toNat)
    case atStart =>
      refine ⟨0, Nat.zero_le _, rfl, rfl, ?_, Hb2.out.alloc Hb2.out.size _, by simp, fun j hj h => by omega⟩
      exact World.ownsRow_lit (base := w2.heap.size) (e := 9) (size := 1) w2 #[] 0 (Nat.le_refl _) (by simp [maxLen]) rfl
    case round =>
      obtain ⟨k, hk, rfl, rfl, h1, h2, h3, h4⟩ := hrel
      obtain ⟨wo, hwo⟩ : ∃ wo, wo = wr := ⟨_, rfl⟩
      subst hwo
      by_cases hlt : k < l.length
      · obtain ⟨b0, o0, rfl, _, gc0, hsz⟩ := strE_at (HR0.out wo h2) hlt
        have hN : ∀ w, Calls Try.prog 20 #[.string l[k]] w fun e w' => e = .returned (.bool (nameB l[k].data.toList)) ∧ w = w' := fun w => RefName_calls _ hsz w
        cases hn : nameB l[k].data.toList with
        | false =>
          rw [hn] at hN
          have HN := Lib.hid hN; have H2 := Lib.hid h2
          clear hN h1 h2 h3 h4 hn
          go_wp2_with (go_at_call 20; refine (HN.out _).mono ?_; rintro e w' ⟨rfl, rfl⟩)
          go_ret
          exact ⟨rfl, H2.out⟩
        | true =>
          rw [hn] at hN
          have hbk : ∃ y, y = bl by_ k := ⟨_, rfl⟩
          obtain ⟨y, hy⟩ := hbk
          have hHas : ∀ tok w, (txt l by_ k ++ y ++ l[k] ++ y).size < 4294967281 → Calls Try.prog 21 #[.string (txt l by_ k ++ y ++ l[k] ++ y), .string tok] w fun e w' => e = .returned (.bool ((words (txt l by_ k ++ y ++ l[k] ++ y).data.toList).contains tok.data.toList)) ∧ Below w.heap.size w w' := fun tok w h => WordHas.Has_calls _ _ h w
          have hts := txt_size l by_ (k + 1) (by omega) (fun j hj hjk => by
            by_cases e : j = k
            · subst e; exact hn
            · exact h4 j hj (by omega))
          have hte : txt l by_ (k + 1) = txt l by_ k ++ y ++ l[k] ++ y := by
            rw [hy]; simp [txt, List.getD_eq_getElem?_getD, hlt]
          rw [hte] at hts
          have hwd := txt_words l by_ (k + 1) (by omega) (fun j hj hjk => by
            by_cases e : j = k
            · subst e; exact hn
            · exact h4 j hj (by omega))
          rw [hte] at hwd
          have hsz1 : (txt l by_ k ++ y).size ≤ 24 * (k + 1) := by simp only [ByteArray.size_append] at hts ⊢; omega
          have hsz2 : (txt l by_ k ++ y ++ l[k]).size ≤ 24 * (k + 1) := by simp only [ByteArray.size_append] at hts ⊢; omega
          have HN := Lib.hid hN; have H1 := Lib.hid h1; have H2 := Lib.hid h2; have H4 := Lib.hid h4; have Hy := Lib.hid hy; have Hn := Lib.hid hn; have Hwd := Lib.hid hwd; have HHas := Lib.hid hHas; have Hte := Lib.hid hte
          clear hN h1 h2 h4 hn hy hwd hHas hte
          simp only [ByteArray.size_append] at hsz1 hsz2 hts
          have hin : inB l l[k] 0 = false := rfl
          have hgc : ∀ W, Below w.heap.size w W → ∀ j (hj : j < l.length), W.cell? ⟨b0, o0 + j, none⟩ = some (.string l[j]) := fun W hb j hj => by
            obtain ⟨b, o, he, _, g, _⟩ := strE_at (HR0.out W hb) hj
            simp only [Option.some.injEq, Addr.mk.injEq, and_true] at he
            obtain ⟨rfl, rfl⟩ := he
            exact g
          have Hgc := Lib.hid hgc; clear hgc
          by_cases hby : k < by_.length
          case' pos =>
            obtain ⟨b1, o1, rfl, _, gc1, hwf⟩ := intE_at (HR1.out wo H2.out) hby
            have hbd : 0 ≤ by_[k] ∧ by_[k] ≤ 255 := by { simp only [Lit.wf, Bool.and_eq_true, decide_eq_true_eq] at hwf; exact hwf }
            have hcl : ∀ W : World, (W.alloc (.cells #[.string ⟨#[32]⟩, .string ⟨#[9]⟩, .string ⟨#[10]⟩, .string ⟨#[12]⟩, .string ⟨#[13]⟩, .string ⟨#[32, 32]⟩] 9)).cell? ⟨W.heap.size, (by_[k] % 6).toNat, none⟩ = some (.string y) := fun W => by
              have hyr : y = ([⟨#[32]⟩, ⟨#[9]⟩, ⟨#[10]⟩, ⟨#[12]⟩, ⟨#[13]⟩, ⟨#[32, 32]⟩] : List ByteArray).getD (by_[k] % 6).toNat ⟨#[32]⟩ := by
                rw [Hy.out]; unfold bl; rw [dif_pos hby]
              rw [hyr, cell_of_row _ _ _ _ 9 (0, 0) (heap_alloc_new W _)]
              match (by_[k] % 6).toNat, (show (by_[k] % 6).toNat < 6 by omega) with
              | 0, _ | 1, _ | 2, _ | 3, _ | 4, _ | 5, _ => rfl
            clear hwf
            have ga0 := fun o => cell_alloc gc0 o
            have ga1 := fun o => cell_alloc gc1 o
            generalize by_[k] = bk at *
            have Hin := Lib.hid hin; clear hin
            go_wp2_with (go_at_call 20; refine (HN.out _).mono ?_; rintro e w' ⟨rfl, rfl⟩)
            have hbW := (Below.refl wo.heap.size wo).alloc (Nat.le_refl _) (.cells #[.string ⟨#[32]⟩, .string ⟨#[9]⟩, .string ⟨#[10]⟩, .string ⟨#[12]⟩, .string ⟨#[13]⟩, .string ⟨#[32, 32]⟩] 9)
            clear hcl ga0 ga1 gc1 hbd
            generalize wo.alloc (.cells #[.string ⟨#[32]⟩, .string ⟨#[9]⟩, .string ⟨#[10]⟩, .string ⟨#[12]⟩, .string ⟨#[13]⟩, .string ⟨#[32, 32]⟩] 9) = W1 at *
          case' neg =>
            obtain rfl : y = ⟨#[32]⟩ := by rw [Hy.out]; unfold bl; rw [dif_neg hby]
            have Hin := Lib.hid hin; clear hin
            go_wp2_with (go_at_call 20; refine (HN.out _).mono ?_; rintro e w' ⟨rfl, rfl⟩)
            have hbW := Below.refl wo.heap.size wo
            obtain ⟨W1, hW1⟩ : ∃ W1, W1 = wo := ⟨_, rfl⟩
            rw [← hW1]
            rw [show Below wo.heap.size wo wo ↔ Below wo.heap.size wo W1 from by rw [hW1]] at hbW
            clear hW1
          all_goals
            have HbW := Lib.hid hbW; clear hbW
            go_loopw [9, 10] (fun b i wr => ∃ n : Nat, n ≤ k ∧ i = .int .i64 n ∧ b = .bool (inB l l[k] n) ∧ Below wo.heap.size wo wr) (fun _ i _ => k - (intOf i).toNat)
            case atStart => exact ⟨0, Nat.zero_le _, rfl, by rw [Hin.out], HbW.out⟩
            case round =>
              obtain ⟨n, hnk, rfl, rfl, hbz⟩ := hrel
              by_cases hltn : n < k
              · have gn := Hgc.out _ (bthen H2.out hbz) n (by omega)
                have gk := Hgc.out _ (bthen H2.out hbz) k hlt
                have hsu := inB_succ (l := l) (x := l[k]) (k := n) (by omega)
                have Hbz := Lib.hid hbz; clear hbz
                cases hi : inB l l[k] n with
                | true =>
                  rw [hi, Bool.true_or] at hsu
                  have Hsu := Lib.hid hsu; clear hsu hi
                  go_wp2
                  go_region
                  go_wp2
                  exact ⟨⟨n + 1, by omega, by go_num, by rw [Hsu.out], by first | exact Hbz.out.drew | exact Hbz.out⟩, by simp [intOf]; omega⟩
                | false =>
                  rw [hi, Bool.false_or] at hsu
                  have Hsu := Lib.hid hsu; clear hsu hi
                  go_wp2
                  go_region
                  go_wp2
                  exact ⟨⟨n + 1, by omega, by go_num, by rw [Hsu.out], by first | exact Hbz.out.drew | exact Hbz.out⟩, by simp [intOf]; omega⟩
              · obtain rfl : n = k := by omega
                have gk := Hgc.out _ (bthen H2.out hbz) n hlt
                have hH : ∀ w, Calls Try.prog 21 #[.string _, .string l[n]] w fun e w' => e = .returned (.bool true) ∧ Below w.heap.size w w' := fun w => by
                  have := HHas.out l[n] w (by simp only [ByteArray.size_append]; omega)
                  rw [Hwd.out, show ((l.take (n + 1)).map (·.data.toList)).contains l[n].data.toList = true from List.contains_iff_mem.2 (List.mem_map.2 ⟨l[n], List.mem_take_iff_getElem.2 ⟨n, by omega, rfl⟩, rfl⟩)] at this
                  exact this
                have hws := want_succ hlt
                have hln := want_length l n
                have hown := own_keep H1.out (w' := wr) (fun g hg => hbz.block g (H1.out.lt g hg).2)
                have Hbz := Lib.hid hbz; have HH := Lib.hid hH; have Hown := Lib.hid hown
                clear hbz hH hown
                have hnm : ∀ j (hj : j < l.length), j < n + 1 → nameB l[j].data.toList = true := fun j hj hjk => by
                  by_cases e : j = n
                  · subst e; exact Hn.out
                  · exact H4.out j hj (by omega)
                have Hnm := Lib.hid hnm; clear hnm
                cases hi : inB l l[n] n with
                | true =>
                  rw [hi, if_pos rfl] at hws
                  have Hws := Lib.hid hws; clear hws hi
                  go_wp2_with (go_at_call 21; refine (HH.out _).mono ?_; rintro e w6 ⟨rfl, hb6⟩; have Hb6 := Lib.hid hb6; clear hb6)
                  go_roundw
                  case rel => exact ⟨n + 1, by omega, by go_num, by rw [Hte.out], by rw [Hws.out]; exact own_keep Hown.out (fun g hg => Hb6.out.block g (Hown.out.lt g hg).2), bthen (bthen H2.out Hbz.out) Hb6.out, Nat.le_trans h3 (Nat.le_trans Hbz.out.size Hb6.out.size), Hnm.out⟩
                  case measure => simp [intOf]; omega
                | false =>
                  rw [hi, if_neg (by simp)] at hws
                  have Hws := Lib.hid hws; clear hws hi
                  go_wp2_with (first
                    | (go_at_call 21; refine (HH.out _).mono ?_; rintro e w6 ⟨rfl, hb6⟩; have Hb6 := Lib.hid hb6; clear hb6)
                    | (at_builtin; (refine pl_append wr w2.heap.size rfl _ _ 22 9 (.string ⟨#[]⟩) 16 rfl Try.underlying22 WordHas.info_str rfl u6 ((want l n).map str) (.string l[n]) rfl rfl rfl (by rw [List.length_map]; exact Hown.out) (Nat.le_trans h3 Hbz.out.size) (by rw [List.length_map]; omega) (by rw [List.length_map]; simp [maxLen]; omega) ?_); rintro v7 w7 hown7 hgrow7 ⟨g7, cap7, rfl, hat⟩; have hb7 := grown_below (bthen H2.out Hbz.out) hgrow7 Hown.out Hb2.out.size; have gk7 := Hgc.out _ hb7 n hlt; have Hb7 := Lib.hid hb7; clear hb7; have Hown7 := Lib.hid hown7; have Hgrow7 := Lib.hid hgrow7; have Hat := Lib.hid hat; clear hown7 hgrow7 hat))
                  go_roundw
                  case rel =>
                    have hxs : (want l n).map str ++ [Value.string l[n]] = (want l (n + 1)).map str := by rw [Hws.out, List.map_append]; simp [str]
                    have hown8 := Hown7.out
                    rw [hxs] at hown8
                    refine ⟨n + 1, by omega, by go_num, by rw [Hte.out], ?_, ?_, Nat.le_trans h3 (Nat.le_trans Hbz.out.size (Nat.le_trans Hgrow7.out.size Hb6.out.size)), Hnm.out⟩
                    · have := own_keep hown8 (w' := w6) (fun g hg => Hb6.out.block g (hown8.lt g hg).2)
                      simpa only [List.length_map] using this
                    · exact bthen Hb7.out Hb6.out
                  case measure => simp [intOf]; omega
      · obtain rfl : k = l.length := by omega
        obtain ⟨s, hs0⟩ : ∃ s, s = txt l by_ l.length := ⟨_, rfl⟩
        have hts := txt_size l by_ l.length (Nat.le_refl _) (fun j hj hjk => h4 j hj hj)
        have hwd := txt_words l by_ l.length (Nat.le_refl _) (fun j hj hjk => h4 j hj hj)
        rw [← hs0] at hts hwd ⊢
        have hwant : want l l.length = once (words s.data.toList) := by unfold want; rw [hwd]
        rw [hwant] at h1
        have hT := fun w => WordHas.Tokens_calls s (by omega) w
        have hH : ∀ w, Calls Try.prog 21 #[.string s, .string ⟨#[]⟩] w fun e w' => e = .returned (.bool false) ∧ Below w.heap.size w w' := fun w => by
          have := WordHas.Has_calls s ⟨#[]⟩ (by omega) w
          rw [show (words s.data.toList).contains (⟨#[]⟩ : ByteArray).data.toList = false from ?_] at this
          · exact this
          · rw [hwd, List.take_length, ← Bool.not_eq_true, List.contains_iff_mem]
            intro hm
            obtain ⟨x, hx, he⟩ := List.mem_map.1 hm
            obtain ⟨j, hj, rfl⟩ := List.mem_iff_getElem.1 hx
            exact WNames.name_ne (h4 j hj hj) he
        have hrd := RdRow.of_own h1
        generalize once (words s.data.toList) = ow at *
        have H2 := Lib.hid h2; have HT := Lib.hid hT; have HH := Lib.hid hH; have Hrd := Lib.hid hrd
        clear h1 h2 h3 h4 hrd hT hH hwd hs0 hts hwant
        go_wp2_with (first
          | (go_at_call 23; with_reducible refine (HT.out _).mono ?_; rintro e w8 ⟨v8, rfl, hv8, hb8⟩; have Hv8 := Lib.hid hv8; have Hb8 := Lib.hid hb8; clear hv8 hb8)
          | (go_at_call 22; with_reducible (refine (WJoins.Same_calls _ _ (Nat.le_refl _) _ _ ow Hv8.out ((WJoins.rd_below Hrd.out Hb8.out (Nat.le_refl _)).mono Hb8.out.size)).mono ?_); rintro e w9 ⟨rfl, hb9⟩; have Hb9 := Lib.hid hb9; clear hb9)
          | (go_at_call 21; with_reducible refine (HH.out _).mono ?_; rintro e w10 ⟨rfl, hb10⟩; have Hb10 := Lib.hid hb10; clear hb10))
        go_ret
        exact ⟨rfl, bthen (bthen (bthen H2.out Hb8.out) Hb9.out) Hb10.out⟩
theorem WordTokens_row (w : World) (l : List ByteArray) (v0 : Value) (h0 : RdL strE 1 w.heap.size w v0 l) (by_ : List Int) (v1 : Value) (h1 : RdL (intE .u8) 1 w.heap.size w v1 by_) :
    Calls Try.prog 3 #[v0, v1] w fun e w' => e = .returned (.bool true) ∧ Below w.heap.size w w' := WordTokens_calls l by_ v0 v1 w h0 h1
end Go.Proofs.Ytbbompmpecblgaa.WTLaw
