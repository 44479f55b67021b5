/- The iterator over a text's words; Has, Tokens. -/
import Derived.Test.YtbbompmpecblgaaWord
import Derived.Test.YtbbompmpecblgaaIdx
import Derived.Test.YtbbompmpecblgaaSeq
import Derived.Shelf.Abstract
import Derived.Shelf.RegionOpen
import Derived.OwnWalkIn
import Derived.TacticsInMore
import Derived.LoopNIn
import Derived.LoopIn
import Derived.Sort.LoopGhostIn
import Derived.Lib.Hide
import Derived.Outline
namespace Go.Proofs.Ytbbompmpecblgaa.WordIt
open Go Go.RowKit Go.Shelf Go.Proofs.Ytbbompmpecblgaa.WS Go.Proofs.Ytbbompmpecblgaa.Seq
set_option linter.unusedVariables false
set_option linter.unusedSimpArgs false
theorem wide_fn (f : FuncId) : Fence.wide.fn f = True := rfl
theorem wide_depth : Fence.wide.depth = none := rfl
theorem wide_round : Fence.wide.round = none := rfl
attribute [local go_sem] Oper.semAt_some wide_fn wide_depth wide_round

def str (l : List UInt8) : Value := .string ⟨l.toArray⟩

theorem index_blank (b : UInt8) : decide (0 ≤ Lib.indexByte [9, 10, 12, 13, 32] b) = isBlank b := by
  have key : ∀ n : Fin 256, decide (0 ≤ Lib.indexByte [9, 10, 12, 13, 32] (UInt8.ofNat n.val)) = isBlank (UInt8.ofNat n.val) := by decide +kernel
  have := key ⟨b.toNat, b.toNat_lt⟩
  simpa using this
theorem extract_upto (s : ByteArray) (k : Nat) : s.extract 0 k = ⟨(s.data.toList.take k).toArray⟩ := by
  apply ByteArray.ext
  rw [ByteArray.data_extract]
  apply Array.toList_inj.1
  simp
theorem extract_all (s : ByteArray) : s.extract 0 s.size = s := by
  rw [extract_upto, List.take_of_length_le (by simp), Array.toArray_toList]
/-- k words have come; s is what is left. -/
def WAt (s0 : ByteArray) (k : Nat) (s : ByteArray) : Prop := (words s0.data.toList).drop k = words s.data.toList ∧ k ≤ (words s0.data.toList).length
theorem WAt.zero (s0 : ByteArray) : WAt s0 0 s0 := ⟨rfl, Nat.zero_le _⟩

theorem WAt.done {s0 s : ByteArray} {k : Nat} (h : WAt s0 k s) (ht : trimB s.data.toList = []) : k = (words s0.data.toList).length := by
  have h1 := h.1
  rw [words_nil ht, List.drop_eq_nil_iff] at h1
  exact Nat.le_antisymm h.2 h1
theorem WAt.next {s0 s : ByteArray} {k : Nat} (h : WAt s0 k s) (ht : trimB s.data.toList ≠ []) :
    ∃ hk : k < (words s0.data.toList).length, (words s0.data.toList)[k] = headB (trimB s.data.toList) ∧ ∀ s2 : ByteArray, s2.data.toList = tailB (trimB s.data.toList) → WAt s0 (k + 1) s2 := by
  have h1 := h.1
  rw [words_cons ht] at h1
  have hk : k < (words s0.data.toList).length := by
    rcases Nat.lt_or_ge k (words s0.data.toList).length with h2 | h2
    · exact h2
    · rw [List.drop_eq_nil_of_le h2] at h1; cases h1
  rw [List.drop_eq_getElem_cons hk] at h1
  injection h1 with h2 h3
  exact ⟨hk, h2, fun s2 e => ⟨by rw [e]; exact h3, hk⟩⟩
theorem trim_at {s : ByteArray} {j : Nat} (hj : j ≤ s.size) (h : ∀ m (h : m < s.size), m < j → isBlank s[m] = true) (hn : ∀ h : j < s.size, isBlank s[j] = false) : trimB s.data.toList = s.data.toList.drop j := by
  have h1 : s.data.toList = s.data.toList.take j ++ s.data.toList.drop j := (List.take_append_drop _ _).symm
  unfold trimB
  conv => lhs; rw [h1]
  rw [List.dropWhile_append_of_pos]
  · rcases Nat.lt_or_ge j s.size with h2 | h2
    · rw [List.drop_eq_getElem_cons (by simpa using h2), List.dropWhile_cons]
      have := hn h2
      rw [if_neg]
      intro h3
      rw [show s.data.toList[j]'(by simpa using h2) = s[j] from rfl, this] at h3
      cases h3
    · rw [List.drop_eq_nil_of_le (by simpa using h2)]; rfl
  · intro x hx
    obtain ⟨m, hm, rfl⟩ := List.mem_iff_getElem.1 hx
    rw [List.length_take] at hm
    rw [List.getElem_take]
    exact h m (by simp at hm; omega) (by omega)
/-- Where IndexAny finds a blank, there the first word ends. -/
theorem head_at (l : List UInt8) : ∃ m : Nat, m ≤ l.length ∧ ((Lib.indexAny l Idx.blankL = -1 ∧ m = l.length) ∨ (Lib.indexAny l Idx.blankL = (m : Int))) ∧ headB l = l.take m ∧ tailB l = l.drop m := by
  have hc : ∀ b : UInt8, Idx.blankL.contains b = isBlank b := by
    intro b
    have key : ∀ n : Fin 256, Idx.blankL.contains (UInt8.ofNat n.val) = isBlank (UInt8.ofNat n.val) := by decide +kernel
    have := key ⟨b.toNat, b.toNat_lt⟩
    simpa using this
  induction l with
  | nil => exact ⟨0, Nat.le_refl _, .inl ⟨rfl, rfl⟩, rfl, rfl⟩
  | cons b l ih =>
    cases hb : isBlank b with
    | true =>
      refine ⟨0, Nat.zero_le _, .inr ?_, ?_, ?_⟩
      · exact Lib.indexAny_hit (x := b) (Lib.NoAny.zero _ _) rfl (by rw [hc, hb])
      · unfold headB; simp [hb]
      · unfold tailB; simp [List.dropWhile_cons, hb]
    | false =>
      obtain ⟨m, hm, hi, h1, h2⟩ := ih
      refine ⟨m + 1, by simp; omega, ?_, ?_, ?_⟩
      · have e : Lib.indexAny (b :: l) Idx.blankL = if Lib.indexAny l Idx.blankL < 0 then -1 else Lib.indexAny l Idx.blankL + 1 := by
          have h0 : Idx.blankL.contains b = false := by rw [hc, hb]
          have h9 := Lib.indexAny_ge Idx.blankL l
          simp only [Lib.indexAny, h0]
          by_cases h8 : Lib.indexAny l Idx.blankL = -1
          · rw [h8]; rfl
          · have h7 : ¬ Lib.indexAny l Idx.blankL < 0 := fun h => h8 (Int.le_antisymm (by generalize Lib.indexAny l Idx.blankL = z at h ⊢; omega) h9)
            rw [if_neg h7]; simp [h8]
        rcases hi with ⟨h3, rfl⟩ | h3
        · left; rw [e, h3]; exact ⟨rfl, by simp⟩
        · right; rw [e, h3, if_neg (by omega)]; simp
      · unfold headB at h1 ⊢; simp [hb, h1]
      · unfold tailB at h2 ⊢; simp [List.dropWhile_cons, hb, h2]

set_option maxHeartbeats 800000 in
theorem words_seq (s0 : ByteArray) (hs : s0.size < 4294967281) (B : Nat) :
    SeqC Try.prog 83 #[.pointer (some ⟨B, 0, none⟩)] ((words s0.data.toList).map str) (fun b => b = B) (fun _ => False) (fun W => W.heap[B]? = some (.cells #[.string s0] 9 (0, 0))) := by
  intro l J Jx X W hW hJ hJx hX h0 hY
  refine callsIn_of_wp Try.func83 rfl trivial ?_ rfl
  simp only [Try.ntmps83, List.size_toArray, List.length_cons, List.length_nil, Nat.reduceAdd, Nat.reduceSub, Array.replicate_succ, Array.replicate_zero, List.push_toArray, List.append_toArray, List.nil_append, List.cons_append]
  have HJ := Lib.hid hJ; have HJx := Lib.hid hJx; have HX := Lib.hid hX; have HY := Lib.hid hY; have H0 := Lib.hid h0; have HW := Lib.hid hW
  clear hJ hJx hX hY h0 hW
  gi_wp2
  gi_loopg [] s0.size (fun g wr => ∃ (k : Nat) (s : ByteArray) (X' : Nat → Prop), s.size ≤ g ∧ s.size ≤ s0.size ∧ WAt s0 k s ∧ wr.heap[B]? = some (.cells #[.string s] 9 (0, 0)) ∧ J k X' wr ∧ Grew X W X' ∧ Off (fun b => X b ∨ b = B) W wr)
  case atStart => exact ⟨0, s0, X, Nat.le_refl _, Nat.le_refl _, WAt.zero s0, HW.out, H0.out, Grew.refl _ _, Off.refl _ _⟩
  case round =>
    obtain ⟨k, s, X', hg, hs0, hat, hcell, hj, hgr, hoff⟩ := hrel
    have hc : wr.cell? ⟨B, 0, none⟩ = some (.string s) := by simp [World.cell?, hcell]
    have hf : wr.frozen? ⟨B, 0, none⟩ = false := by simp [World.frozen?, hcell]
    have Hat := Lib.hid hat; have Hcell := Lib.hid hcell; have Hj := Lib.hid hj; have Hgr := Lib.hid hgr; have Hoff := Lib.hid hoff
    clear hat hcell hj hgr hoff
    gi_wp2
    gi_loop [3] (fun i => ∃ j : Nat, j ≤ s.size ∧ i = .int .i64 j ∧ Hid (∀ m (h : m < s.size), m < j → isBlank s[m] = true)) (fun i => s.size - (intOf i).toNat)
    case atStart => exact ⟨0, Nat.zero_le _, rfl, fun m _ h => absurd h (Nat.not_lt_zero _)⟩
    case round =>
      obtain ⟨j, hjle, rfl, hbl⟩ := hrel
      by_cases hlt : j < s.size
      · have hib := index_blank s[j]
        cases hb1 : isBlank s[j] with
        | true =>
          rw [hb1] at hib
          gi_wp2_with (gi_at_call 59; refine (callsIn_wide.2 (Try.strings_IndexByte _ _ _)).mono ?_; rintro e w1 ⟨rfl, hw⟩; obtain rfl := hw.symm)
          go_round
          case rel => exact ⟨j + 1, by omega, by go_num, fun m hm h => by
            rcases Nat.lt_or_ge m j with h1 | h1
            · exact hbl.out m hm h1
            · obtain rfl : m = j := by omega
              exact hb1⟩
          case measure => simp [intOf]; omega
        | false =>
          rw [hb1] at hib
          have htr := trim_at hjle hbl.out (fun _ => hb1)
          have hex : (s.extract j s.size).data.toList = s.data.toList.drop j := Lib.extract_to_end s j
          have hne1 : s.data.toList.drop j ≠ [] := by intro h; rw [List.drop_eq_nil_iff] at h; simp at h; omega
          have hne : (s.extract j s.size).toList.isEmpty = false := by rw [Lib.toList_data, hex]; simp; omega
          obtain ⟨hk, hw1, hnext⟩ := Hat.out.next (by rw [htr]; exact hne1)
          obtain ⟨m, hm, hi, hh, ht⟩ := head_at (s.extract j s.size).data.toList
          rw [← hex] at htr
          have hsz0 : (s.extract j s.size).size = s.size - j := by rw [Lib.size_eq, hex, List.length_drop, ← Lib.size_eq]
          have hsz1 : (s.extract j s.size).size < 4294967281 := by rw [hsz0]; omega
          have hsz2 : (s.extract j s.size).size ≤ s.size := by rw [hsz0]; omega
          clear hsz0
          have Htr := Lib.hid htr; have Hw1 := Lib.hid hw1; have Hnext := Lib.hid hnext; have Hm := Lib.hid hm; have Hi := Lib.hid hi; have Hh := Lib.hid hh; have Ht := Lib.hid ht; have Hex := Lib.hid hex
          clear htr hw1 hnext hm hi hh ht hex hne1
          gi_wp2_with (gi_at_call 59; refine (callsIn_wide.2 (Try.strings_IndexByte _ _ _)).mono ?_; rintro e w1 ⟨rfl, hw⟩; obtain rfl := hw.symm)
          generalize hs1 : s.extract j s.size = s1 at *
          have Hs1 := Lib.hid hs1; clear hs1
          refine (callsIn_wide.2 (Idx.IndexAny_calls _ _ hsz1)).mono ?_
          rintro e w2 ⟨rfl, hb2⟩
          have hXB : ¬ X' B := fun h => by
            rcases Hgr.out B h with h1 | h1
            · exact (HX.out B h1).1 rfl
            · have := (Array.getElem?_eq_some_iff.1 HW.out).1; omega
          have hcell1 : (wr.setCell ⟨B, 0, none⟩ (.string s1)).heap[B]? = some (.cells #[.string s1] 9 (0, 0)) := by
            simp only [World.setCell, Array.getElem?_modify, Hcell.out]; simp
          have hcell2 : w2.heap[B]? = some (.cells #[.string s1] 9 (0, 0)) := (hb2.block _ (Array.getElem?_eq_some_iff.1 hcell1).1).trans hcell1
          have hoff12 : ∀ Y : Nat → Prop, Y B → Off Y wr w2 := fun Y hY => (Off.setCell (Y := Y) wr ⟨B, 0, none⟩ (.string s1) hY).trans (Off.below hb2 (fun b h1 h2 => absurd h1 (by omega)))
          have hj2 : J k X' w2 := HJ.out.1 _ _ _ _ Hj.out (hoff12 _ hXB)
          have hc2 : w2.cell? ⟨B, 0, none⟩ = some (.string s1) := by simp [World.cell?, hcell2]
          have hf2 : w2.frozen? ⟨B, 0, none⟩ = false := by simp [World.frozen?, hcell2]
          have henc : ((words s0.data.toList).map str)[k]'(by simpa using hk) = .string (s1.extract 0 m) := by
            rw [List.getElem_map, Hw1.out, Htr.out, Hh.out, extract_upto]; rfl
          have hlt2 : s1.size - m < s1.size := by
            have h1 := tailB_lt (s := s.data.toList) (by rw [Htr.out]; intro h; rw [h] at Hh; have := Hnext; simp [Lib.toList_data, h] at hne)
            rw [Htr.out, Ht.out, List.length_drop, ← Lib.size_eq] at h1
            exact h1
          obtain ⟨fn, tmps, assign, body, hy, hR⟩ := HY.out k X' w2 (by simpa using hk) hj2
          rw [henc] at hy
          have hn2 : ∀ s2 : ByteArray, s2.data.toList = s1.data.toList.drop m → WAt s0 (k + 1) s2 := fun s2 h2 => Hnext.out s2 (by rw [Htr.out, Ht.out, h2])
          have Hn2 := Lib.hid hn2; have Hcell2 := Lib.hid hcell2; have Hoff12 := Lib.hid hoff12; have Hj2 := Lib.hid hj2; have HR := Lib.hid hR
          clear hcell1 hcell2 hoff12 hj2 henc hR hn2 hb2
          rcases Hi.out with ⟨hi, hmm⟩ | hi
          · rw [← Lib.size_eq] at hmm
            subst hmm
            rw [extract_all] at hy
            rw [hi]
            gi_wp2
            refine HR.out.mono ?_
            rintro e W3 ⟨X3, hg3, ho3, h3⟩
            have hcell3 : W3.heap[B]? = some (.cells #[.string s1] 9 (0, 0)) := (ho3.block _ (Array.getElem?_eq_some_iff.1 Hcell2.out).1 hXB).trans Hcell2.out
            have hc3 : W3.cell? ⟨B, 0, none⟩ = some (.string s1) := by simp [World.cell?, hcell3]
            have hf3 : W3.frozen? ⟨B, 0, none⟩ = false := by simp [World.frozen?, hcell3]
            have hoff3 : Off (fun b => X b ∨ b = B) W W3 := (Hoff.out.trans (Hoff12.out _ (.inr rfl))).trans' ho3 (fun b hb => by
              rcases Hgr.out b hb with h | h
              · exact .inl (.inl h)
              · exact .inr h)
            have hgr3 : Grew X W X3 := Hgr.out.trans hg3 (Nat.le_trans Hoff.out.size (Hoff12.out (fun b => b = B) rfl).size)
            have Hcell3 := Lib.hid hcell3; have Hoff3 := Lib.hid hoff3; have Hgr3 := Lib.hid hgr3
            have hX3 : ¬ X3 B := fun h => by
              rcases hg3 B h with h1 | h1
              · exact hXB h1
              · have := (Array.getElem?_eq_some_iff.1 Hcell2.out).1; omega
            have HX3 := Lib.hid hX3
            clear hcell3 hoff3 hgr3 hg3 ho3 hX3
            rcases h3 with ⟨rfl, hj3⟩ | ⟨rfl, hj3⟩
            · have Hj3 := Lib.hid hj3; clear hj3
              gi_wp2
              gi_roundg 0
              case measure => omega
              case rel =>
                refine ⟨k + 1, ByteArray.empty, X3, Nat.le_refl _, Nat.zero_le _, Hn2.out _ (by simp), ?_, HJ.out.1 _ _ _ _ Hj3.out (Off.setCell _ _ _ HX3.out), Hgr3.out, Hoff3.out.trans (Off.setCell _ _ _ (.inr rfl))⟩
                simp only [World.setCell, Array.getElem?_modify, Hcell3.out]; simp
            · have Hj3 := Lib.hid hj3; clear hj3
              gi_wp2
              refine bodyPost_ret (results_none rfl _ _ _) rfl ?_
              exact ⟨⟨_, rfl⟩, X3, Hgr3.out, Hoff3.out, .inr ⟨k, by simpa using hk, Hj3.out⟩⟩
          · rw [hi]
            gi_wp2
            refine HR.out.mono ?_
            rintro e W3 ⟨X3, hg3, ho3, h3⟩
            have hcell3 : W3.heap[B]? = some (.cells #[.string s1] 9 (0, 0)) := (ho3.block _ (Array.getElem?_eq_some_iff.1 Hcell2.out).1 hXB).trans Hcell2.out
            have hc3 : W3.cell? ⟨B, 0, none⟩ = some (.string s1) := by simp [World.cell?, hcell3]
            have hf3 : W3.frozen? ⟨B, 0, none⟩ = false := by simp [World.frozen?, hcell3]
            have hoff3 : Off (fun b => X b ∨ b = B) W W3 := (Hoff.out.trans (Hoff12.out _ (.inr rfl))).trans' ho3 (fun b hb => by
              rcases Hgr.out b hb with h | h
              · exact .inl (.inl h)
              · exact .inr h)
            have hgr3 : Grew X W X3 := Hgr.out.trans hg3 (Nat.le_trans Hoff.out.size (Hoff12.out (fun b => b = B) rfl).size)
            have Hcell3 := Lib.hid hcell3; have Hoff3 := Lib.hid hoff3; have Hgr3 := Lib.hid hgr3
            have hX3 : ¬ X3 B := fun h => by
              rcases hg3 B h with h1 | h1
              · exact hXB h1
              · have := (Array.getElem?_eq_some_iff.1 Hcell2.out).1; omega
            have HX3 := Lib.hid hX3
            clear hcell3 hoff3 hgr3 hg3 ho3 hX3
            rcases h3 with ⟨rfl, hj3⟩ | ⟨rfl, hj3⟩
            · have Hj3 := Lib.hid hj3; clear hj3
              gi_wp2
              have hsz3 : (s1.extract m s1.size).size = s1.size - m := by rw [Lib.size_eq, Lib.extract_to_end, List.length_drop, ← Lib.size_eq]
              gi_roundg (s1.extract m s1.size).size
              case measure => rw [hsz3]; omega
              case rel =>
                refine ⟨k + 1, s1.extract m s1.size, X3, Nat.le_refl _, by rw [hsz3]; omega, Hn2.out _ (Lib.extract_to_end _ _), ?_, HJ.out.1 _ _ _ _ Hj3.out (Off.setCell _ _ _ HX3.out), Hgr3.out, Hoff3.out.trans (Off.setCell _ _ _ (.inr rfl))⟩
                simp only [World.setCell, Array.getElem?_modify, Hcell3.out]; simp
            · have Hj3 := Lib.hid hj3; clear hj3
              gi_wp2
              refine bodyPost_ret (results_none rfl _ _ _) rfl ?_
              exact ⟨⟨_, rfl⟩, X3, Hgr3.out, Hoff3.out, .inr ⟨k, by simpa using hk, Hj3.out⟩⟩
      · obtain rfl : j = s.size := by omega
        have htr := trim_at hjle hbl.out (fun h => absurd h (Nat.lt_irrefl _))
        have hne : (s.extract s.size s.size).toList.isEmpty = true := by rw [Lib.toList_data, Lib.extract_to_end]; simp
        have Htr := Lib.hid htr; clear htr
        gi_wp2
        refine bodyPost_ret (results_none rfl _ _ _) rfl ?_
        have hXB : ¬ X' B := fun h => by
          rcases Hgr.out B h with h1 | h1
          · exact (HX.out B h1).1 rfl
          · have := (Array.getElem?_eq_some_iff.1 HW.out).1; omega
        have hd := Hat.out.done (by rw [Htr.out]; simp)
        refine ⟨⟨_, rfl⟩, X', Hgr.out, Hoff.out.trans (Off.setCell _ _ _ (.inr rfl)), .inl ?_⟩
        rw [← hd]
        exact HJ.out.1 _ _ _ _ Hj.out (Off.setCell _ _ _ hXB)
end Go.Proofs.Ytbbompmpecblgaa.WordIt
