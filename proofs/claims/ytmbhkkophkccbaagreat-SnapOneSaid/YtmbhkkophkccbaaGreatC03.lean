import Derived.Test.YtmbhkkophkccbaaGreatProg
import Derived.Below
import Derived.OwnWalk
import Derived.Tactics
import Derived.Laws.IdiomStrings
import Derived.WalkKit
import Derived.KernelRfl
import Derived.RowKit3
import Derived.LoopTactic
import Derived.Outline
import Derived.Lib.Hide
import Derived.Lib.SpaceUEq
import Derived.Lib.QuoteLoop
import Derived.Lib.OthersKept
import Derived.Lib.IndexAny
import Derived.Lib.IndexBytes
import Derived.Deep.LoopGhost
import Derived.Laws.RangeAny
import Derived.WalkMore
import Derived.LoopN
import Derived.Deep.QuietTactic
import Derived.BigQuiet
import Derived.RegionTactic
import Derived.Shelf.Abstract
import Derived.Shelf.RegionOpen
import Derived.OwnWalkIn
import Derived.TacticsInMore
import Derived.LoopNIn
import Derived.LoopIn
import Derived.Sort.LoopGhostIn
import Derived.Test.YtmbhkkophkccbaaGreatC01
import Derived.Test.YtmbhkkophkccbaaGreatC02
section
namespace Go.Proofs.YtmbhkkophkccbaaGreat.Word
open Go Go.RowKit WS
set_option linter.unusedVariables false
set_option linter.unusedSimpArgs false

theorem or32 (b : UInt8) : Go.bits .or .u8 (b.toNat : Int) 32 = ((b ||| 32).toNat : Int) := by
 have key : ∀ n : Fin 256, Go.bits .or .u8 (n.val : Int) 32 = (((UInt8.ofNat n.val) ||| 32).toNat : Int) := by decide +kernel
 have := key ⟨b.toNat, b.toNat_lt⟩
 simpa using this
theorem letter32 (b : UInt8) : letterB b = (decide (97 ≤ ((b.toNat ||| 32 : Nat) : Int)) && decide (((b.toNat ||| 32 : Nat) : Int) ≤ 122)) := by
 have key : ∀ n : Fin 256, letterB (UInt8.ofNat n.val) = (decide (97 ≤ (((UInt8.ofNat n.val).toNat ||| 32 : Nat) : Int)) && decide ((((UInt8.ofNat n.val).toNat ||| 32 : Nat) : Int) ≤ 122)) := by decide +kernel
 have := key ⟨b.toNat, b.toNat_lt⟩
 simpa using this
theorem ret_bool {a b : Bool} (h : a = b) : Ending.returned (.bool a) = .returned (.bool b) := by rw [h]
theorem letter_calls (b : UInt8) (w : World) : Calls Tryz.prog 209 #[.int .u8 (b.toNat : Int)] w fun e w' => e = .returned (.bool (letterB b)) ∧ w = w' := by
 have hb := or32 b
 go_enter Tryz.func209, Tryz.ntmps209
 go_wp2
 ·have h : (97 : Int) ≤ ((b.toNat ||| 32 : Nat) : Int) := by assumption
  go_ret
  exact ⟨ret_bool (by rw [letter32, decide_eq_true h]; rfl), rfl⟩
 ·have h : ((b.toNat ||| 32 : Nat) : Int) < 97 := by assumption
  go_ret
  exact ⟨ret_bool (by rw [letter32, decide_eq_false (by omega)]; rfl), rfl⟩
theorem Text_calls (s : ByteArray) (w : World) : Calls Tryz.prog 150 #[.string s] w fun e w' => e = .returned (.bool (textB s.data.toList)) ∧ w = w' := by
 go_enter Tryz.func150, Tryz.ntmps150
 go_wp2
 go_ret
 exact ⟨ret_bool (by unfold textB; simp; omega), rfl⟩
theorem mark_index (b : UInt8) (h : letterB b = false) : decide (Lib.indexByte [48, 49, 50, 51, 52, 53, 54, 55, 56, 57, 45, 95] b < 0) = !markB b := by
 have key : ∀ n : Fin 256, letterB (UInt8.ofNat n.val) = false → decide (Lib.indexByte [48, 49, 50, 51, 52, 53, 54, 55, 56, 57, 45, 95] (UInt8.ofNat n.val) < 0) = !markB (UInt8.ofNat n.val) := by decide +kernel
 have := key ⟨b.toNat, b.toNat_lt⟩
 simpa using this (by simpa using h)
theorem name_first {s : ByteArray} (h : 0 < s.size) (hl : letterB s[0] = false) : nameB s.data.toList = false := by
 have e : s.data.toList.head? = some s[0] := by
  rw [List.head?_eq_getElem?, List.getElem?_eq_getElem (by simpa using h)]; rfl
 unfold nameB
 rw [e]; simp [hl]
theorem name_all {s : ByteArray} (h : 0 < s.size) (h20 : s.size ≤ 20) (hl : letterB s[0] = true) (hm : ∀ j (hj : j < s.size), markB s[j] = true) : nameB s.data.toList = true := by
 have e : s.data.toList.head? = some s[0] := by
  rw [List.head?_eq_getElem?, List.getElem?_eq_getElem (by simpa using h)]; rfl
 have ha : s.data.toList.all markB = true := List.all_eq_true.2 fun x hx => by
  obtain ⟨j, hj, rfl⟩ := List.mem_iff_getElem.1 hx
  exact hm j (by simpa using hj)
 unfold nameB
 rw [e, ha, decide_eq_true (show 1 ≤ s.data.toList.length by simp; omega), decide_eq_true (by simpa using h20)]
 simp [hl]
theorem name_not {s : ByteArray} {j : Nat} (hj : j < s.size) (hm : markB s[j] = false) : nameB s.data.toList = false := by
 unfold nameB
 rw [Bool.and_eq_false_iff]
 right
 rw [List.all_eq_false]
 exact ⟨s[j], by rw [List.mem_iff_getElem]; exact ⟨j, by simpa using hj, by simp; rfl⟩, by simp [hm]⟩
theorem Name_calls (s : ByteArray) (w : World) : Calls Tryz.prog 151 #[.string s] w fun e w' => e = .returned (.bool (nameB s.data.toList)) ∧ w = w' := by
 by_cases h0 : s.size = 0
 ·have hl : s.data.toList = [] := by apply List.eq_nil_of_length_eq_zero; simpa using h0
  have he : s.toList.isEmpty = true := by simp [Lib.toList_data, hl]
  have H := Lib.hid hl; clear hl h0
  go_enter Tryz.func151, Tryz.ntmps151
  go_wp2
  go_ret
  exact ⟨ret_bool (by rw [H.out]; rfl), rfl⟩
 ·have he : s.toList.isEmpty = false := by simp [Lib.toList_data, List.isEmpty_eq_false_iff]; intro h; apply h0; simp [← ByteArray.size_data, h]
  have hpos : 0 < s.size := by omega
  by_cases h20 : 20 < s.size
  ·go_enter Tryz.func151, Tryz.ntmps151
   go_wp2
   go_ret
   exact ⟨ret_bool (by unfold nameB; simp; intros; omega), rfl⟩
  ·cases hl0 : letterB s[0] with
   | false =>
    have H := Lib.hid hl0
    go_enter Tryz.func151, Tryz.ntmps151
    go_wp2_with (go_at_call 209; refine (letter_calls _ _).mono ?_; rintro e w' ⟨rfl, rfl⟩; rw [hl0])
    go_ret
    exact ⟨ret_bool (name_first hpos H.out).symm, rfl⟩
   | true =>
    have H := Lib.hid hl0
    go_enter Tryz.func151, Tryz.ntmps151
    go_wp2_with (go_at_call 209; refine (letter_calls _ _).mono ?_; rintro e w' ⟨rfl, rfl⟩; rw [hl0])
    go_loop [20] (fun i => ∃ k : Nat, k ≤ s.size ∧ i = .int .i64 k ∧ Hid (∀ j (hj : j < s.size), j < k → markB s[j] = true)) (fun i => s.size - (intOf i).toNat)
    case atStart => exact ⟨0, Nat.zero_le _, rfl, fun j _ h => absurd h (Nat.not_lt_zero _)⟩
    case round =>
     obtain ⟨k, hk, rfl, hm⟩ := hrel
     by_cases hlt : k < s.size
     ·cases hl1 : letterB s[k] with
      | true =>
       go_wp2_with (go_at_call 209; refine (letter_calls _ _).mono ?_; rintro e w' ⟨rfl, rfl⟩; rw [hl1])
       go_round
       case rel => exact ⟨k + 1, by omega, by go_num, fun j hj h => by
        rcases Nat.lt_or_ge j k with h1 | h1
        ·exact hm.out j hj h1
        ·obtain rfl : j = k := by omega
         unfold markB; rw [hl1]; rfl⟩
       case measure => simp [intOf]; omega
      | false =>
       have hix := mark_index s[k] hl1
       cases hmk : markB s[k] with
       | true =>
        rw [hmk] at hix
        have Hmk := Lib.hid hmk; clear hmk
        go_wp2_with (first
         | (go_at_call 209; refine (letter_calls _ _).mono ?_; rintro e w' ⟨rfl, rfl⟩; rw [hl1])
         | (go_at_call 195; refine (Tryz.strings_IndexByte _ _ _).mono ?_; rintro e w' ⟨rfl, rfl⟩))
        go_round
        case rel => exact ⟨k + 1, by omega, by go_num, fun j hj h => by
         rcases Nat.lt_or_ge j k with h1 | h1
         ·exact hm.out j hj h1
         ·obtain rfl : j = k := by omega
          exact Hmk.out⟩
        case measure => simp [intOf]; omega
       | false =>
        rw [hmk] at hix
        have Hmk := Lib.hid hmk; clear hmk
        go_wp2_with (first
         | (go_at_call 209; refine (letter_calls _ _).mono ?_; rintro e w' ⟨rfl, rfl⟩; rw [hl1])
         | (go_at_call 195; refine (Tryz.strings_IndexByte _ _ _).mono ?_; rintro e w' ⟨rfl, rfl⟩))
        go_ret
        exact ⟨ret_bool (name_not hlt Hmk.out).symm, rfl⟩
     ·go_wp2
      go_ret
      exact ⟨ret_bool (name_all hpos (by omega) H.out (fun j hj => hm.out j hj (by omega))).symm, rfl⟩
theorem foldB_or (b : UInt8) (h1 : 65 ≤ (b.toNat : Int)) (h2 : (b.toNat : Int) ≤ 90) : Go.bits .or .u8 (b.toNat : Int) 32 = ((foldB b).toNat : Int) := by
 have hb : foldB b = b ||| 32 := by unfold foldB; rw [if_pos ⟨by omega, by omega⟩]
 rw [hb]
 have key : ∀ n : Fin 256, 65 ≤ n.val → n.val ≤ 90 → Go.bits .or .u8 (n.val : Int) 32 = (((UInt8.ofNat n.val) ||| 32).toNat : Int) := by decide +kernel
 have := key ⟨b.toNat, b.toNat_lt⟩ (by show 65 ≤ b.toNat; omega) (by show b.toNat ≤ 90; omega)
 simpa using this
theorem foldB_same (b : UInt8) (h : ¬ (65 ≤ (b.toNat : Int) ∧ (b.toNat : Int) ≤ 90)) : foldB b = b := by unfold foldB; rw [if_neg (by omega)]
def FoldRow (s : ByteArray) (b k : Nat) (wr : World) : Prop :=
 ∃ C lo, wr.heap[b]? = some (.cells C 5 (lo, lo + 1)) ∧ s.size ≤ lo ∧ ∀ j (hj : j < s.size), C[j]? = some (.int .u8 ((if j < k then foldB s.data[j] else s.data[j]).toNat : Int))
theorem FoldRow.cell {s : ByteArray} {b k : Nat} {wr : World} (h : FoldRow s b k wr) (hk : k < s.size) : wr.cell? ⟨b, k, none⟩ = some (.int .u8 (s.data[k]).toNat) := by
 obtain ⟨C, lo, hb, hl, hc⟩ := h
 simp [World.cell?, hb, hc k hk]
theorem FoldRow.frozen {s : ByteArray} {b k : Nat} {wr : World} (h : FoldRow s b k wr) (hk : k < s.size) : wr.frozen? ⟨b, k, none⟩ = false := by
 obtain ⟨C, lo, hb, hl, hc⟩ := h
 simp [World.frozen?, hb]; omega
theorem FoldRow.step {s : ByteArray} {b k : Nat} {wr : World} (h : FoldRow s b k wr) (hk : k < s.size) (v : Int) (hv : v = (foldB s.data[k]).toNat) : FoldRow s b (k + 1) (wr.setCell ⟨b, k, none⟩ (.int .u8 v)) := by
 subst hv
 obtain ⟨C, lo, hb, hl, hc⟩ := h
 refine ⟨C.setIfInBounds k (.int .u8 (foldB s.data[k]).toNat), lo, ?_, hl, fun j hj => ?_⟩
 ·simp only [World.setCell, Array.getElem?_modify, hb]; simp
 ·have hk' := (Array.getElem?_eq_some_iff.1 (hc k hk)).1
  by_cases e : k = j
  ·subst e; simp [Array.getElem?_setIfInBounds, hk']
  ·rw [Array.getElem?_setIfInBounds_ne e, hc j hj]
   by_cases h1 : j < k
   ·rw [if_pos h1, if_pos (show j < k + 1 by omega)]
   ·rw [if_neg h1, if_neg (show ¬ j < k + 1 by omega)]
theorem FoldRow.same {s : ByteArray} {b k : Nat} {wr : World} (h : FoldRow s b k wr) (hk : k < s.size) (e : foldB s.data[k] = s.data[k]) : FoldRow s b (k + 1) wr := by
 obtain ⟨C, lo, hb, hl, hc⟩ := h
 refine ⟨C, lo, hb, hl, fun j hj => ?_⟩
 rw [hc j hj]
 by_cases h1 : j = k
 ·subst h1; rw [if_neg (show ¬ j < j by omega), if_pos (show j < j + 1 by omega), e]
 ·by_cases h2 : j < k
  ·rw [if_pos h2, if_pos (show j < k + 1 by omega)]
  ·rw [if_neg h2, if_neg (show ¬ j < k + 1 by omega)]
theorem FoldRow.back {s : ByteArray} {b : Nat} {wr : World} (h : FoldRow s b s.size wr) (P : Program) (src dst e : TypeId) (cap : Nat) (hs : P.underlying src = some (.slice e)) (he : P.underlying e = some (.int .u8)) (hd : P.underlying dst = some .string) :
  (convert src dst (.slice (some ⟨b, 0, none⟩) s.size cap)).run P wr = .ok (.string ⟨s.data.map foldB⟩) wr := by
 obtain ⟨C, lo, hb, hl, hc⟩ := h
 have := run_convert_bytes_back (P := P) wr src dst e ⟨b, 0, none⟩ cap (s.data.map foldB).toList hs he hd (fun j hj => by
  have hj' : j < s.size := by simpa using hj
  have ha : (⟨b, 0, none⟩ : Addr).add j = ⟨b, j, none⟩ := by unfold Addr.add; split <;> simp_all
  rw [ha]; simp [World.cell?, hb, hc j hj', hj'])
 have e1 : (s.data.map foldB).toList.toArray = s.data.map foldB := Array.toArray_toList
 have e2 : (s.data.map foldB).toList.length = s.size := by simp
 rw [e1, e2] at this
 exact this
set_option maxHeartbeats 800000 in
theorem Fold_calls (a0 : ByteArray) (hs : a0.size < 4294967281) (w : World) : Calls Tryz.prog 120 #[.string a0] w fun e w' => e = .returned (.string ⟨a0.data.map foldB⟩) ∧ Below w.heap.size w w' := by
 have hcv := fun (W : World) => run_bytes_of_string (P := Tryz.prog) W 9 208 5 a0 Tryz.underlying9 Tryz.underlying208 Tryz.underlying5
 go_enter Tryz.func120, Tryz.ntmps120
 go_wp2
 clear hcv
 go_loopw [10] (fun i wr => ∃ k : Nat, k ≤ a0.size ∧ i = .int .i64 k ∧ FoldRow a0 w.heap.size k wr ∧ Below w.heap.size w wr) (fun i _ => a0.size - (intOf i).toNat)
 case atStart =>
  refine ⟨0, Nat.zero_le _, rfl, ⟨bytesRow a0 (grownCap w a0.size 0 5), (bytesRow a0 (grownCap w a0.size 0 5)).size, ?_, ?_, fun j hj => ?_⟩, ((Below.refl _ w).alloc (Nat.le_refl _) _).drew⟩
  ·simp [World.alloc, World.drew, -World.alloc_eq, -World.drew_eq]
  ·simp only [bytesRow, Array.size_append, Array.size_map, Array.size_replicate]; show a0.data.size ≤ _; omega
  ·have : j < a0.data.size := hj
   simp only [bytesRow]
   rw [Array.getElem?_append_left (by simpa using this)]
   rw [Array.getElem?_map, Array.getElem?_eq_getElem this]; simp
 case round =>
  obtain ⟨k, hk, rfl, hr, hb⟩ := hrel
  by_cases hlt : k < a0.size
  ·have hc := hr.cell hlt
   have hf := hr.frozen hlt
   have H := Lib.hid hr; clear hr
   go_wp2
   all_goals go_roundw
   case measure => simp [intOf]; omega
   case rel h1 h2 => exact ⟨k + 1, by omega, by go_num, H.out.step hlt _ (foldB_or _ h1 h2), hb.setCell (Nat.le_refl _) _⟩
   case measure => simp [intOf]; omega
   case rel h1 h2 => exact ⟨k + 1, by omega, by go_num, H.out.same hlt (foldB_same _ (by omega)), hb⟩
   case measure => simp [intOf]; omega
   case rel h1 => exact ⟨k + 1, by omega, by go_num, H.out.same hlt (foldB_same _ (by omega)), hb⟩
  ·obtain rfl : k = a0.size := by omega
   have hbk := hr.back Tryz.prog 208 9 5 (grownCap w a0.size 0 5) Tryz.underlying208 Tryz.underlying5 Tryz.underlying9
   go_wp2
   go_ret
   exact ⟨rfl, hb⟩
end Go.Proofs.YtmbhkkophkccbaaGreat.Word
end
section
namespace Go.Proofs.YtmbhkkophkccbaaGreat.Idx
open Go Go.RowKit WS
set_option linter.unusedVariables false
set_option linter.unusedSimpArgs false
theorem ret_int {a b : Int} (h : a = b) : Ending.returned (.int .i64 a) = .returned (.int .i64 b) := by rw [h]
def blankS : ByteArray := ⟨#[9, 10, 12, 13, 32]⟩

theorem enc_far (r : Int) (h1 : 128 ≤ r) (hv : Lib.validRune r = true) : ∃ (rs : ByteArray) (x : UInt8), (rs.size = 2 ∨ rs.size = 3 ∨ rs.size = 4) ∧ (∀ h : rs.size - 1 < rs.size, rs[rs.size - 1] = x) ∧ 128 ≤ x.toNat ∧ ∀ W : World, (convert 21 9 (.int .i32 r)).run Tryz.prog W = .ok (.string rs) W := by
 have hcv : ∀ W : World, (convert 21 9 (.int .i32 r)).run Tryz.prog W = .ok (.string (Utf8.encode r)) W := fun W => by
  simp [convert, run_underlying Tryz.underlying21, run_underlying Tryz.underlying9, Conv.intToString]
 have hlast : ∀ n : Nat, 128 ≤ (UInt8.ofNat (128 + n % 64)).toNat := fun n => by
  rw [UInt8.toNat_ofNat_of_lt' (by show 128 + n % 64 < 256; omega)]; omega
 generalize hc : (if Utf8.valid r then r.toNat else Utf8.runeError) = c
 have hc128 : 128 ≤ c := by
  rw [← hc]; split
  ·omega
  ·decide
 have he : Utf8.encode r = if c < 0x80 then ⟨#[UInt8.ofNat c]⟩
   else if c < 0x800 then ⟨#[UInt8.ofNat (0xC0 + c / 64), UInt8.ofNat (0x80 + c % 64)]⟩
   else if c < 0x10000 then ⟨#[UInt8.ofNat (0xE0 + c / 4096), UInt8.ofNat (0x80 + c / 64 % 64), UInt8.ofNat (0x80 + c % 64)]⟩
   else ⟨#[UInt8.ofNat (0xF0 + c / 262144), UInt8.ofNat (0x80 + c / 4096 % 64), UInt8.ofNat (0x80 + c / 64 % 64), UInt8.ofNat (0x80 + c % 64)]⟩ := by rw [← hc]; rfl
 rw [if_neg (by omega)] at he
 refine ⟨_, UInt8.ofNat (128 + c % 64), ?_, ?_, hlast c, hcv⟩
 ·rw [he]; split
  ·exact .inl rfl
  ·split
   ·exact .inr (.inl rfl)
   ·exact .inr (.inr rfl)
 ·rw [he]; split
  ·intro _; rfl
  ·split
   ·intro _; rfl
   ·intro _; rfl
theorem pw_drewN {B : Nat} {w W : World} (h : Below B w W) (n : Nat) : Below B w (W.drewN n) := ⟨h.os, h.tape, h.output, h.size, h.block⟩
theorem far (x : UInt8) (h : 128 ≤ x.toNat) : ((10 : Int) == (x.toNat : Int)) = false ∧ ((12 : Int) == (x.toNat : Int)) = false ∧ ((13 : Int) == (x.toNat : Int)) = false ∧
  Lib.indexByte [12, 13, 32] x = -1 ∧ Lib.indexByte [13, 32] x = -1 ∧ Lib.indexByte [32] x = -1 ∧ ((((⟨#[9, 10, 12, 13, 32]⟩ : ByteArray)[1]'(by decide)).toNat : Int) != (x.toNat : Int)) = true ∧ ((((⟨#[9, 10, 12, 13, 32]⟩ : ByteArray)[2]'(by decide)).toNat : Int) != (x.toNat : Int)) = true ∧ ((((⟨#[9, 10, 12, 13, 32]⟩ : ByteArray)[3]'(by decide)).toNat : Int) != (x.toNat : Int)) = true := by
 have key : ∀ n : Fin 256, 128 ≤ n.val → Lib.indexByte [12, 13, 32] (UInt8.ofNat n.val) = -1 ∧ Lib.indexByte [13, 32] (UInt8.ofNat n.val) = -1 ∧ Lib.indexByte [32] (UInt8.ofNat n.val) = -1 := by decide +kernel
 have k := key ⟨x.toNat, x.toNat_lt⟩ h
 simp only [UInt8.ofNat_toNat] at k
 refine ⟨?_, ?_, ?_, k.1, k.2.1, k.2.2, ?_, ?_, ?_⟩
 ·exact beq_eq_false_iff_ne.2 (by omega)
 ·exact beq_eq_false_iff_ne.2 (by omega)
 ·exact beq_eq_false_iff_ne.2 (by omega)
 ·exact bne_iff_ne.2 (by show ((10 : Nat) : Int) ≠ _; omega)
 ·exact bne_iff_ne.2 (by show ((12 : Nat) : Int) ≠ _; omega)
 ·exact bne_iff_ne.2 (by show ((13 : Nat) : Int) ≠ _; omega)
set_option maxHeartbeats 800000 in
set_option maxRecDepth 100000 in
theorem IndexRune_far (r : Int) (w : World) (h1 : 128 ≤ r) (hv : Lib.validRune r = true) :
  Calls Tryz.prog 236 #[.string ⟨#[9, 10, 12, 13, 32]⟩, .int .i32 r] w fun e w' => e = .returned (.int .i64 (-1)) ∧ Below w.heap.size w w' := by
 by_cases he : r = 65533
 ·subst he
  have n0 := fun ty => run_next_ascii (P := Tryz.prog) w ⟨#[9, 10, 12, 13, 32]⟩ 0 ty (by decide) (by decide)
  have n1 := fun ty => run_next_ascii (P := Tryz.prog) w ⟨#[9, 10, 12, 13, 32]⟩ 1 ty (by decide) (by decide)
  have n2 := fun ty => run_next_ascii (P := Tryz.prog) w ⟨#[9, 10, 12, 13, 32]⟩ 2 ty (by decide) (by decide)
  have n3 := fun ty => run_next_ascii (P := Tryz.prog) w ⟨#[9, 10, 12, 13, 32]⟩ 3 ty (by decide) (by decide)
  have n4 := fun ty => run_next_ascii (P := Tryz.prog) w ⟨#[9, 10, 12, 13, 32]⟩ 4 ty (by decide) (by decide)
  have n5 := fun ty => run_next_end (P := Tryz.prog) w ⟨#[9, 10, 12, 13, 32]⟩ 5 ty (by decide)
  go_enter Tryz.func236, Tryz.ntmps236
  go_wp2_with fail
  refine wp_loop_rounds 6 ?_
  rw [rounds_succ]
  go_wp2
  rw [rounds_succ]
  go_wp2
  rw [rounds_succ]
  go_wp2
  rw [rounds_succ]
  go_wp2
  rw [rounds_succ]
  go_wp2
  rw [rounds_succ]
  go_wp2
  go_ret
  exact ⟨rfl, by unfold World.iter; exact (Below.refl _ _).alloc (Nat.le_refl _) _⟩
 ·have he1 : (r == 65533) = false := beq_eq_false_iff_ne.2 he
  obtain ⟨rs, x, hrs, hlast, hx, hcv⟩ : ∃ (rs : ByteArray) (x : UInt8), (rs.size = 2 ∨ rs.size = 3 ∨ rs.size = 4) ∧ (∀ h : rs.size - 1 < rs.size, rs[rs.size - 1] = x) ∧ 128 ≤ x.toNat ∧ ∀ W : World, (convert 21 9 (.int .i32 r)).run Tryz.prog W = .ok (.string rs) W := by
   exact enc_far r h1 hv
  obtain ⟨f1, f2, f3, e1, e2, e3, g1, g2, g3⟩ := far x hx
  have HX := Lib.hid hx; clear hx
  rcases hrs with hrs | hrs | hrs
  ·have hl : rs[1]'(by omega) = x := by simpa [hrs] using hlast (by omega)
   have hib : ∀ W, Calls Tryz.prog 195 #[.string ((⟨#[9, 10, 12, 13, 32]⟩ : ByteArray).extract 2 5), .int .u8 (x.toNat : Int)] W fun e w' => e = .returned (.int .i64 (-1)) ∧ w' = W := fun W =>
    (Tryz.strings_IndexByte _ _ _).mono (by rintro e w' ⟨rfl, rfl⟩; refine ⟨ret_int ?_, rfl⟩; rw [show ((x.toNat : Int)).toNat.toUInt8 = x by simp]; exact e1)
   clear hlast e1 e2 e3
   go_enter Tryz.func236, Tryz.ntmps236
   go_wp2_with (go_at_call 245; refine (Tryz.utf8_ValidRune _ _).mono ?_; rintro e w' ⟨rfl, rfl⟩; rw [hv])
   go_step3
   go_wp2_with fail
   refine wp_loop_rounds 1 ?_
   rw [rounds_succ]
   go_wp2_with fail
   go_step3
   go_wp2_with fail
   go_region
   go_wp2_with fail
   go_big_quiet (((with_reducible refine (hib _).mono ?_); rintro e w'' ⟨he, rfl⟩; exact ⟨he, _, rfl⟩))
   go_wp2
   rw [Exit.noGoto_ret]
   simp only [Exit.inBlock, Exit.then, Exit.noGoto_ret]
   go_ret
   exact ⟨rfl, by first | exact (Below.refl _ _).drew | (refine pw_drewN ?_ _; first | exact (Below.refl _ _).drew | exact Below.refl _ _)⟩
  ·have hl : rs[2]'(by omega) = x := by simpa [hrs] using hlast (by omega)
   have hib : ∀ W, Calls Tryz.prog 195 #[.string ((⟨#[9, 10, 12, 13, 32]⟩ : ByteArray).extract 3 5), .int .u8 (x.toNat : Int)] W fun e w' => e = .returned (.int .i64 (-1)) ∧ w' = W := fun W =>
    (Tryz.strings_IndexByte _ _ _).mono (by rintro e w' ⟨rfl, rfl⟩; refine ⟨ret_int ?_, rfl⟩; rw [show ((x.toNat : Int)).toNat.toUInt8 = x by simp]; exact e2)
   clear hlast e1 e2 e3
   go_enter Tryz.func236, Tryz.ntmps236
   go_wp2_with (go_at_call 245; refine (Tryz.utf8_ValidRune _ _).mono ?_; rintro e w' ⟨rfl, rfl⟩; rw [hv])
   go_step3
   go_wp2_with fail
   refine wp_loop_rounds 1 ?_
   rw [rounds_succ]
   go_wp2_with fail
   go_step3
   go_wp2_with fail
   go_region
   go_wp2_with fail
   go_big_quiet (((with_reducible refine (hib _).mono ?_); rintro e w'' ⟨he, rfl⟩; exact ⟨he, _, rfl⟩))
   go_wp2
   rw [Exit.noGoto_ret]
   simp only [Exit.inBlock, Exit.then, Exit.noGoto_ret]
   go_ret
   exact ⟨rfl, by first | exact (Below.refl _ _).drew | (refine pw_drewN ?_ _; first | exact (Below.refl _ _).drew | exact Below.refl _ _)⟩
  ·have hl : rs[3]'(by omega) = x := by simpa [hrs] using hlast (by omega)
   have hib : ∀ W, Calls Tryz.prog 195 #[.string ((⟨#[9, 10, 12, 13, 32]⟩ : ByteArray).extract 4 5), .int .u8 (x.toNat : Int)] W fun e w' => e = .returned (.int .i64 (-1)) ∧ w' = W := fun W =>
    (Tryz.strings_IndexByte _ _ _).mono (by rintro e w' ⟨rfl, rfl⟩; refine ⟨ret_int ?_, rfl⟩; rw [show ((x.toNat : Int)).toNat.toUInt8 = x by simp]; exact e3)
   clear hlast e1 e2 e3
   go_enter Tryz.func236, Tryz.ntmps236
   go_wp2_with (go_at_call 245; refine (Tryz.utf8_ValidRune _ _).mono ?_; rintro e w' ⟨rfl, rfl⟩; rw [hv])
   go_step3
   go_wp2_with fail
   refine wp_loop_rounds 1 ?_
   rw [rounds_succ]
   go_wp2_with fail
   go_step3
   go_wp2_with fail
   go_region
   go_wp2_with fail
   go_big_quiet (((with_reducible refine (hib _).mono ?_); rintro e w'' ⟨he, rfl⟩; exact ⟨he, _, rfl⟩))
   go_wp2
   rw [Exit.noGoto_ret]
   simp only [Exit.inBlock, Exit.then, Exit.noGoto_ret]
   go_ret
   exact ⟨rfl, by first | exact (Below.refl _ _).drew | (refine pw_drewN ?_ _; first | exact (Below.refl _ _).drew | exact Below.refl _ _)⟩
theorem decode_far (s : ByteArray) (i : Nat) (h : i < s.size) (hx : 128 ≤ (s[i]).toNat) :
  128 ≤ (Utf8.decode s i).1 ∧ Lib.validRune ((Utf8.decode s i).1 : Int) = true ∧ 1 ≤ (Utf8.decode s i).2 ∧ i + (Utf8.decode s i).2 ≤ s.size ∧ ∀ j, j < (Utf8.decode s i).2 → 128 ≤ (s.data.toList.getD (i + j) 0).toNat := by
 have e0 : (s.data.toList.getD i 0) = s[i] := by
  rw [List.getD_eq_getElem?_getD, List.getElem?_eq_getElem (by simpa using h)]; rfl
 rw [Lib.decode_N]
 have hl : s.data.toList.length = s.size := by simp
 have hb0 : 128 ≤ (s.data.toList.getD i 0).toNat := by rw [e0]; exact hx
 have hlt : ∀ k, (s.data.toList.getD k 0).toNat < 256 := fun k => UInt8.toNat_lt _
 have k1 := Lib.decodeN_cases (s.data.toList.length - i) (s.data.toList.getD i 0).toNat (s.data.toList.getD (i + 1) 0).toNat (s.data.toList.getD (i + 2) 0).toNat (s.data.toList.getD (i + 3) 0).toNat
 have k2 := Lib.decodeN_conts (s.data.toList.length - i) (s.data.toList.getD i 0).toNat (s.data.toList.getD (i + 1) 0).toNat (s.data.toList.getD (i + 2) 0).toNat (s.data.toList.getD (i + 3) 0).toNat
 have k3 := Lib.decodeN_valid (s.data.toList.length - i) (s.data.toList.getD i 0).toNat (s.data.toList.getD (i + 1) 0).toNat (s.data.toList.getD (i + 2) 0).toNat (s.data.toList.getD (i + 3) 0).toNat (hlt _)
 have k4 := Lib.decodeN_ge1 (s.data.toList.length - i) (s.data.toList.getD i 0).toNat (s.data.toList.getD (i + 1) 0).toNat (s.data.toList.getD (i + 2) 0).toNat (s.data.toList.getD (i + 3) 0).toNat
 have k5 := Lib.decodeN_width_le (s.data.toList.length - i) (s.data.toList.getD i 0).toNat (s.data.toList.getD (i + 1) 0).toNat (s.data.toList.getD (i + 2) 0).toNat (s.data.toList.getD (i + 3) 0).toNat (by omega)
 generalize Lib.decodeN (s.data.toList.length - i) (s.data.toList.getD i 0).toNat (s.data.toList.getD (i + 1) 0).toNat (s.data.toList.getD (i + 2) 0).toNat (s.data.toList.getD (i + 3) 0).toNat = d at *
 obtain ⟨c1, c2, c3, c4⟩ := k2
 refine ⟨?_, ?_, k4, by omega, fun j hj => ?_⟩
 ·rcases k1 with ⟨h1, _⟩ | ⟨_, _, _, h4, rfl⟩ | ⟨_, _, _, _, h4, rfl⟩ | ⟨h4, _⟩ | rfl
  ·omega
  ·exact h4
  ·show 128 ≤ _; omega
  ·omega
  ·decide
 ·unfold Lib.validRune; simp; omega
 ·match j, hj with
  | 0, _ => exact hb0
  | 1, hj => have := (c1 (by omega)).1; omega
  | 2, hj => have := (c2 (by omega)).1; omega
  | 3, hj => have := (c3 (by omega)).1; omega
  | j + 4, hj => omega
def blankL : List UInt8 := [9, 10, 12, 13, 32]
theorem noAny_far {l : List UInt8} {i : Nat} (h : Lib.NoAny l blankL i) (n : Nat) (hn : ∀ j, j < n → 128 ≤ (l.getD (i + j) 0).toNat) : Lib.NoAny l blankL (i + n) := by
 intro j b hj hb
 rcases Nat.lt_or_ge j i with h1 | h1
 ·exact h j b h1 hb
 ·have := hn (j - i) (by omega)
  rw [show i + (j - i) = j by omega, List.getD_eq_getElem?_getD, hb] at this
  have h2 : 128 ≤ b.toNat := this
  have key : ∀ n : Fin 256, 128 ≤ n.val → blankL.contains (UInt8.ofNat n.val) = false := by decide +kernel
  have := key ⟨b.toNat, b.toNat_lt⟩ h2
  simpa using this
set_option maxHeartbeats 800000 in
set_option maxRecDepth 100000 in
theorem IndexAny_short (s : ByteArray) (w : World) (h8 : s.size ≤ 8) :
  Calls Tryz.prog 220 #[.string s, .string ⟨#[9, 10, 12, 13, 32]⟩] w fun e w' => e = .returned (.int .i64 (Lib.indexAny s.data.toList blankL)) ∧ Below w.heap.size w w' := by
 have h8z : decide ((8 : Int) < (s.size : Int)) = false := decide_eq_false (by omega)
 go_enter Tryz.func220, Tryz.ntmps220
 go_wp2_with (go_at_call 237; refine (Tryz.strings_shouldUseASCIISet _ _).mono ?_; rintro e w' ⟨rfl, hw⟩; rw [hw, h8z])
 go_loopg [9, 10] s.size (fun g _ _ wx => ∃ i : Nat, i ≤ s.size ∧ s.size - i ≤ g ∧ wx.heap[w.heap.size]? = some (.stringIter s i) ∧ Lib.NoAny s.data.toList blankL i ∧ Below w.heap.size w wx)
 case atStart => exact ⟨0, by omega, by omega, World.iter_heap _ _ _, Lib.NoAny.zero _ _, by unfold World.iter; exact (Below.refl _ _).alloc (Nat.le_refl _) _⟩
 case round =>
  obtain ⟨i, hi, hig, hk, hno, hb⟩ := hrel
  have HN := Lib.hid hno; clear hno
  have HK := Lib.hid hk; clear hk
  by_cases hlt : i < s.size
  ·obtain ⟨g, rfl⟩ : ∃ g, gk = g + 1 := ⟨gk - 1, by omega⟩
   have hxl : s.data.toList[i]? = some s[i] := Lib.data_getElem? s i hlt
   have Hx := Lib.hid hxl; clear hxl
   by_cases h128 : (s[i]).toNat < 128
   ·have hnx := fun ty => Lib.run_next_ascii_at (P := Tryz.prog) _ w.heap.size s i ty HK.out hlt h128
    have hcon := Lib.contains_iff_indexByte blankL s[i]
    have hback : (((s[i]).toNat : Int)).toNat.toUInt8 = s[i] := by simp
    cases hin : blankL.contains s[i] with
    | false =>
     rw [hin] at hcon
     have hge : decide ((0 : Int) ≤ Lib.indexByte [9, 10, 12, 13, 32] s[i]) = false := hcon.symm
     clear hcon
     go_wp2_with (go_at_call 236; refine (Tryz.strings_IndexRune_ascii _ _ _ (by omega) (by omega)).mono ?_; rintro e w' ⟨rfl, hw⟩; rw [hw, hback])
     go_roundg g
     case measure => omega
     case rel => exact ⟨i + 1, by omega, by omega, Lib.iterAt_heap _ _ _ _ _ HK.out, HN.out.succ Hx.out hin, Lib.below_iterAt hb (Nat.le_refl _) _ _⟩
    | true =>
     rw [hin] at hcon
     have hge : decide ((0 : Int) ≤ Lib.indexByte [9, 10, 12, 13, 32] s[i]) = true := hcon.symm
     clear hcon
     go_wp2_with (go_at_call 236; refine (Tryz.strings_IndexRune_ascii _ _ _ (by omega) (by omega)).mono ?_; rintro e w' ⟨rfl, hw⟩; rw [hw, hback])
     go_ret
     exact ⟨by rw [Lib.indexAny_hit HN.out Hx.out hin]; rfl, Lib.below_iterAt hb (Nat.le_refl _) _ _⟩
   ·obtain ⟨d1, d2, d3, d4, d5⟩ := decode_far s i hlt (by omega)
    have hnx := fun ty => Lib.run_next_any_at (P := Tryz.prog) _ w.heap.size s i ty HK.out hlt
    have hic := Lib.iterAt_heap _ w.heap.size s i (i + (Utf8.decode s i).2) HK.out
    have D5 := Lib.hid d5; clear d5
    generalize hd : Utf8.decode s i = d at *
    have Hd := Lib.hid hd; clear hd
    obtain ⟨r, n⟩ := d
    dsimp only at *
    have HI := Lib.hid hic; clear hic
    have hb1 := Lib.below_iterAt hb (Nat.le_refl _) s (i + n)
    go_wp2_with (go_at_call 236; refine (IndexRune_far _ _ (by omega) d2).mono ?_; rintro e w' ⟨rfl, hw⟩)
    go_roundg g
    case measure => omega
    case rel =>
     have hb2 := hb1.trans (hw.mono hb1.size)
     exact ⟨i + n, by omega, by omega, (hw.block _ (Array.getElem?_eq_some_iff.1 HI.out).1).trans HI.out, noAny_far HN.out n D5.out, hb2⟩
  ·obtain rfl : i = s.size := by omega
   have hnx := fun ty => Lib.run_next_end_at (P := Tryz.prog) _ w.heap.size s s.size ty HK.out (by omega)
   go_wp2
   go_ret
   exact ⟨by rw [Lib.indexAny_none (by rw [← Lib.size_eq]; exact HN.out)]; rfl, hb⟩
theorem IndexAny_calls (s : ByteArray) (w : World) (hs : s.size < 4294967281) :
  Calls Tryz.prog 220 #[.string s, .string ⟨#[9, 10, 12, 13, 32]⟩] w fun e w' => e = .returned (.int .i64 (Lib.indexAny s.data.toList blankL)) ∧ Below w.heap.size w w' := by
 by_cases h8 : s.size ≤ 8
 ·exact IndexAny_short s w h8
 ·refine (Tryz.strings_IndexAny_long (fun w => by kernel_rfl) s ⟨#[9, 10, 12, 13, 32]⟩ w (by decide) (by omega) hs (by decide) ?_).mono ?_
  ·intro j b hb
   have hm : b ∈ blankL := List.mem_of_getElem? hb
   revert hm; simp [blankL]; rintro (rfl | rfl | rfl | rfl | rfl) <;> decide
  ·rintro e w' ⟨rfl, rfl⟩
   exact ⟨rfl, ((Below.refl _ _).alloc (Nat.le_refl _) _).alloc (by simp) _⟩
end Go.Proofs.YtmbhkkophkccbaaGreat.Idx
end
section
namespace Go.Proofs.YtmbhkkophkccbaaGreat.WordIt
open Go Go.RowKit Go.Shelf WS Go.Proofs.YtmbhkkophkccbaaGreat.Seq
set_option linter.unusedVariables false
set_option linter.unusedSimpArgs false
theorem wide_fn (f : FuncId) : Fence.wide.fn f = True := rfl
theorem wide_depth : Fence.wide.depth = none := rfl
theorem wide_round : Fence.wide.round = none := rfl
attribute [local go_sem] Oper.semAt_some wide_fn wide_depth wide_round

def str (l : List UInt8) : Value := .string ⟨l.toArray⟩

theorem index_blank (b : UInt8) : decide (0 ≤ Lib.indexByte [9, 10, 12, 13, 32] b) = isBlank b := by
 have key : ∀ n : Fin 256, decide (0 ≤ Lib.indexByte [9, 10, 12, 13, 32] (UInt8.ofNat n.val)) = isBlank (UInt8.ofNat n.val) := by decide +kernel
 have := key ⟨b.toNat, b.toNat_lt⟩
 simpa using this
theorem extract_upto (s : ByteArray) (k : Nat) : s.extract 0 k = ⟨(s.data.toList.take k).toArray⟩ := by
 apply ByteArray.ext
 rw [ByteArray.data_extract]
 apply Array.toList_inj.1
 simp
theorem extract_all (s : ByteArray) : s.extract 0 s.size = s := by
 rw [extract_upto, List.take_of_length_le (by simp), Array.toArray_toList]
def WAt (s0 : ByteArray) (k : Nat) (s : ByteArray) : Prop := (words s0.data.toList).drop k = words s.data.toList ∧ k ≤ (words s0.data.toList).length
theorem WAt.zero (s0 : ByteArray) : WAt s0 0 s0 := ⟨rfl, Nat.zero_le _⟩

theorem WAt.done {s0 s : ByteArray} {k : Nat} (h : WAt s0 k s) (ht : trimB s.data.toList = []) : k = (words s0.data.toList).length := by
 have h1 := h.1
 rw [words_nil ht, List.drop_eq_nil_iff] at h1
 exact Nat.le_antisymm h.2 h1
theorem WAt.next {s0 s : ByteArray} {k : Nat} (h : WAt s0 k s) (ht : trimB s.data.toList ≠ []) :
  ∃ hk : k < (words s0.data.toList).length, (words s0.data.toList)[k] = headB (trimB s.data.toList) ∧ ∀ s2 : ByteArray, s2.data.toList = tailB (trimB s.data.toList) → WAt s0 (k + 1) s2 := by
 have h1 := h.1
 rw [words_cons ht] at h1
 have hk : k < (words s0.data.toList).length := by
  rcases Nat.lt_or_ge k (words s0.data.toList).length with h2 | h2
  ·exact h2
  ·rw [List.drop_eq_nil_of_le h2] at h1; cases h1
 rw [List.drop_eq_getElem_cons hk] at h1
 injection h1 with h2 h3
 exact ⟨hk, h2, fun s2 e => ⟨by rw [e]; exact h3, hk⟩⟩
theorem trim_at {s : ByteArray} {j : Nat} (hj : j ≤ s.size) (h : ∀ m (h : m < s.size), m < j → isBlank s[m] = true) (hn : ∀ h : j < s.size, isBlank s[j] = false) : trimB s.data.toList = s.data.toList.drop j := by
 have h1 : s.data.toList = s.data.toList.take j ++ s.data.toList.drop j := (List.take_append_drop _ _).symm
 unfold trimB
 conv => lhs; rw [h1]
 rw [List.dropWhile_append_of_pos]
 ·rcases Nat.lt_or_ge j s.size with h2 | h2
  ·rw [List.drop_eq_getElem_cons (by simpa using h2), List.dropWhile_cons]
   have := hn h2
   rw [if_neg]
   intro h3
   rw [show s.data.toList[j]'(by simpa using h2) = s[j] from rfl, this] at h3
   cases h3
  ·rw [List.drop_eq_nil_of_le (by simpa using h2)]; rfl
 ·intro x hx
  obtain ⟨m, hm, rfl⟩ := List.mem_iff_getElem.1 hx
  rw [List.length_take] at hm
  rw [List.getElem_take]
  exact h m (by simp at hm; omega) (by omega)
theorem head_at (l : List UInt8) : ∃ m : Nat, m ≤ l.length ∧ ((Lib.indexAny l Idx.blankL = -1 ∧ m = l.length) ∨ (Lib.indexAny l Idx.blankL = (m : Int))) ∧ headB l = l.take m ∧ tailB l = l.drop m := by
 have hc : ∀ b : UInt8, Idx.blankL.contains b = isBlank b := by
  intro b
  have key : ∀ n : Fin 256, Idx.blankL.contains (UInt8.ofNat n.val) = isBlank (UInt8.ofNat n.val) := by decide +kernel
  have := key ⟨b.toNat, b.toNat_lt⟩
  simpa using this
 induction l with
 | nil => exact ⟨0, Nat.le_refl _, .inl ⟨rfl, rfl⟩, rfl, rfl⟩
 | cons b l ih =>
  cases hb : isBlank b with
  | true =>
   refine ⟨0, Nat.zero_le _, .inr ?_, ?_, ?_⟩
   ·exact Lib.indexAny_hit (x := b) (Lib.NoAny.zero _ _) rfl (by rw [hc, hb])
   ·unfold headB; simp [hb]
   ·unfold tailB; simp [List.dropWhile_cons, hb]
  | false =>
   obtain ⟨m, hm, hi, h1, h2⟩ := ih
   refine ⟨m + 1, by simp; omega, ?_, ?_, ?_⟩
   ·have e : Lib.indexAny (b :: l) Idx.blankL = if Lib.indexAny l Idx.blankL < 0 then -1 else Lib.indexAny l Idx.blankL + 1 := by
     have h0 : Idx.blankL.contains b = false := by rw [hc, hb]
     have h9 := Lib.indexAny_ge Idx.blankL l
     simp only [Lib.indexAny, h0]
     by_cases h8 : Lib.indexAny l Idx.blankL = -1
     ·rw [h8]; rfl
     ·have h7 : ¬ Lib.indexAny l Idx.blankL < 0 := fun h => h8 (Int.le_antisymm (by generalize Lib.indexAny l Idx.blankL = z at h ⊢; omega) h9)
      rw [if_neg h7]; simp [h8]
    rcases hi with ⟨h3, rfl⟩ | h3
    ·left; rw [e, h3]; exact ⟨rfl, by simp⟩
    ·right; rw [e, h3, if_neg (by omega)]; simp
   ·unfold headB at h1 ⊢; simp [hb, h1]
   ·unfold tailB at h2 ⊢; simp [List.dropWhile_cons, hb, h2]

set_option maxHeartbeats 800000 in
theorem words_seq (s0 : ByteArray) (hs : s0.size < 4294967281) (B : Nat) :
  SeqC Tryz.prog 219 #[.pointer (some ⟨B, 0, none⟩)] ((words s0.data.toList).map str) (fun b => b = B) (fun _ => False) (fun W => W.heap[B]? = some (.cells #[.string s0] 9 (0, 0))) := by
 intro l J Jx X W hW hJ hJx hX h0 hY
 refine callsIn_of_wp Tryz.func219 rfl trivial ?_ rfl
 simp only [Tryz.ntmps219, List.size_toArray, List.length_cons, List.length_nil, Nat.reduceAdd, Nat.reduceSub, Array.replicate_succ, Array.replicate_zero, List.push_toArray, List.append_toArray, List.nil_append, List.cons_append]
 have HJ := Lib.hid hJ; have HJx := Lib.hid hJx; have HX := Lib.hid hX; have HY := Lib.hid hY; have H0 := Lib.hid h0; have HW := Lib.hid hW
 clear hJ hJx hX hY h0 hW
 gi_wp2
 gi_loopg [] s0.size (fun g wr => ∃ (k : Nat) (s : ByteArray) (X' : Nat → Prop), s.size ≤ g ∧ s.size ≤ s0.size ∧ WAt s0 k s ∧ wr.heap[B]? = some (.cells #[.string s] 9 (0, 0)) ∧ J k X' wr ∧ Grew X W X' ∧ Off (fun b => X b ∨ b = B) W wr)
 case atStart => exact ⟨0, s0, X, Nat.le_refl _, Nat.le_refl _, WAt.zero s0, HW.out, H0.out, Grew.refl _ _, Off.refl _ _⟩
 case round =>
  obtain ⟨k, s, X', hg, hs0, hat, hcell, hj, hgr, hoff⟩ := hrel
  have hc : wr.cell? ⟨B, 0, none⟩ = some (.string s) := by simp [World.cell?, hcell]
  have hf : wr.frozen? ⟨B, 0, none⟩ = false := by simp [World.frozen?, hcell]
  have Hat := Lib.hid hat; have Hcell := Lib.hid hcell; have Hj := Lib.hid hj; have Hgr := Lib.hid hgr; have Hoff := Lib.hid hoff
  clear hat hcell hj hgr hoff
  gi_wp2
  gi_loop [3] (fun i => ∃ j : Nat, j ≤ s.size ∧ i = .int .i64 j ∧ Hid (∀ m (h : m < s.size), m < j → isBlank s[m] = true)) (fun i => s.size - (intOf i).toNat)
  case atStart => exact ⟨0, Nat.zero_le _, rfl, fun m _ h => absurd h (Nat.not_lt_zero _)⟩
  case round =>
   obtain ⟨j, hjle, rfl, hbl⟩ := hrel
   by_cases hlt : j < s.size
   ·have hib := index_blank s[j]
    cases hb1 : isBlank s[j] with
    | true =>
     rw [hb1] at hib
     gi_wp2_with (gi_at_call 195; refine (callsIn_wide.2 (Tryz.strings_IndexByte _ _ _)).mono ?_; rintro e w1 ⟨rfl, hw⟩; obtain rfl := hw.symm)
     go_round
     case rel => exact ⟨j + 1, by omega, by go_num, fun m hm h => by
      rcases Nat.lt_or_ge m j with h1 | h1
      ·exact hbl.out m hm h1
      ·obtain rfl : m = j := by omega
       exact hb1⟩
     case measure => simp [intOf]; omega
    | false =>
     rw [hb1] at hib
     have htr := trim_at hjle hbl.out (fun _ => hb1)
     have hex : (s.extract j s.size).data.toList = s.data.toList.drop j := Lib.extract_to_end s j
     have hne1 : s.data.toList.drop j ≠ [] := by intro h; rw [List.drop_eq_nil_iff] at h; simp at h; omega
     have hne : (s.extract j s.size).toList.isEmpty = false := by rw [Lib.toList_data, hex]; simp; omega
     obtain ⟨hk, hw1, hnext⟩ := Hat.out.next (by rw [htr]; exact hne1)
     obtain ⟨m, hm, hi, hh, ht⟩ := head_at (s.extract j s.size).data.toList
     rw [← hex] at htr
     have hsz0 : (s.extract j s.size).size = s.size - j := by rw [Lib.size_eq, hex, List.length_drop, ← Lib.size_eq]
     have hsz1 : (s.extract j s.size).size < 4294967281 := by rw [hsz0]; omega
     have hsz2 : (s.extract j s.size).size ≤ s.size := by rw [hsz0]; omega
     clear hsz0
     have Htr := Lib.hid htr; have Hw1 := Lib.hid hw1; have Hnext := Lib.hid hnext; have Hm := Lib.hid hm; have Hi := Lib.hid hi; have Hh := Lib.hid hh; have Ht := Lib.hid ht; have Hex := Lib.hid hex
     clear htr hw1 hnext hm hi hh ht hex hne1
     gi_wp2_with (gi_at_call 195; refine (callsIn_wide.2 (Tryz.strings_IndexByte _ _ _)).mono ?_; rintro e w1 ⟨rfl, hw⟩; obtain rfl := hw.symm)
     generalize hs1 : s.extract j s.size = s1 at *
     have Hs1 := Lib.hid hs1; clear hs1
     refine (callsIn_wide.2 (Idx.IndexAny_calls _ _ hsz1)).mono ?_
     rintro e w2 ⟨rfl, hb2⟩
     have hXB : ¬ X' B := fun h => by
      rcases Hgr.out B h with h1 | h1
      ·exact (HX.out B h1).1 rfl
      ·have := (Array.getElem?_eq_some_iff.1 HW.out).1; omega
     have hcell1 : (wr.setCell ⟨B, 0, none⟩ (.string s1)).heap[B]? = some (.cells #[.string s1] 9 (0, 0)) := by
      simp only [World.setCell, Array.getElem?_modify, Hcell.out]; simp
     have hcell2 : w2.heap[B]? = some (.cells #[.string s1] 9 (0, 0)) := (hb2.block _ (Array.getElem?_eq_some_iff.1 hcell1).1).trans hcell1
     have hoff12 : ∀ Y : Nat → Prop, Y B → Off Y wr w2 := fun Y hY => (Off.setCell (Y := Y) wr ⟨B, 0, none⟩ (.string s1) hY).trans (Off.below hb2 (fun b h1 h2 => absurd h1 (by omega)))
     have hj2 : J k X' w2 := HJ.out.1 _ _ _ _ Hj.out (hoff12 _ hXB)
     have hc2 : w2.cell? ⟨B, 0, none⟩ = some (.string s1) := by simp [World.cell?, hcell2]
     have hf2 : w2.frozen? ⟨B, 0, none⟩ = false := by simp [World.frozen?, hcell2]
     have henc : ((words s0.data.toList).map str)[k]'(by simpa using hk) = .string (s1.extract 0 m) := by
      rw [List.getElem_map, Hw1.out, Htr.out, Hh.out, extract_upto]; rfl
     have hlt2 : s1.size - m < s1.size := by
      have h1 := tailB_lt (s := s.data.toList) (by rw [Htr.out]; intro h; rw [h] at Hh; have := Hnext; simp [Lib.toList_data, h] at hne)
      rw [Htr.out, Ht.out, List.length_drop, ← Lib.size_eq] at h1
      exact h1
     obtain ⟨fn, tmps, assign, body, hy, hR⟩ := HY.out k X' w2 (by simpa using hk) hj2
     rw [henc] at hy
     have hn2 : ∀ s2 : ByteArray, s2.data.toList = s1.data.toList.drop m → WAt s0 (k + 1) s2 := fun s2 h2 => Hnext.out s2 (by rw [Htr.out, Ht.out, h2])
     have Hn2 := Lib.hid hn2; have Hcell2 := Lib.hid hcell2; have Hoff12 := Lib.hid hoff12; have Hj2 := Lib.hid hj2; have HR := Lib.hid hR
     clear hcell1 hcell2 hoff12 hj2 henc hR hn2 hb2
     rcases Hi.out with ⟨hi, hmm⟩ | hi
     ·rw [← Lib.size_eq] at hmm
      subst hmm
      rw [extract_all] at hy
      rw [hi]
      gi_wp2
      refine HR.out.mono ?_
      rintro e W3 ⟨X3, hg3, ho3, h3⟩
      have hcell3 : W3.heap[B]? = some (.cells #[.string s1] 9 (0, 0)) := (ho3.block _ (Array.getElem?_eq_some_iff.1 Hcell2.out).1 hXB).trans Hcell2.out
      have hc3 : W3.cell? ⟨B, 0, none⟩ = some (.string s1) := by simp [World.cell?, hcell3]
      have hf3 : W3.frozen? ⟨B, 0, none⟩ = false := by simp [World.frozen?, hcell3]
      have hoff3 : Off (fun b => X b ∨ b = B) W W3 := (Hoff.out.trans (Hoff12.out _ (.inr rfl))).trans' ho3 (fun b hb => by
       rcases Hgr.out b hb with h | h
       ·exact .inl (.inl h)
       ·exact .inr h)
      have hgr3 : Grew X W X3 := Hgr.out.trans hg3 (Nat.le_trans Hoff.out.size (Hoff12.out (fun b => b = B) rfl).size)
      have Hcell3 := Lib.hid hcell3; have Hoff3 := Lib.hid hoff3; have Hgr3 := Lib.hid hgr3
      have hX3 : ¬ X3 B := fun h => by
       rcases hg3 B h with h1 | h1
       ·exact hXB h1
       ·have := (Array.getElem?_eq_some_iff.1 Hcell2.out).1; omega
      have HX3 := Lib.hid hX3
      clear hcell3 hoff3 hgr3 hg3 ho3 hX3
      rcases h3 with ⟨rfl, hj3⟩ | ⟨rfl, hj3⟩
      ·have Hj3 := Lib.hid hj3; clear hj3
       gi_wp2
       gi_roundg 0
       case measure => omega
       case rel =>
        refine ⟨k + 1, ByteArray.empty, X3, Nat.le_refl _, Nat.zero_le _, Hn2.out _ (by simp), ?_, HJ.out.1 _ _ _ _ Hj3.out (Off.setCell _ _ _ HX3.out), Hgr3.out, Hoff3.out.trans (Off.setCell _ _ _ (.inr rfl))⟩
        simp only [World.setCell, Array.getElem?_modify, Hcell3.out]; simp
      ·have Hj3 := Lib.hid hj3; clear hj3
       gi_wp2
       refine bodyPost_ret (results_none rfl _ _ _) rfl ?_
       exact ⟨⟨_, rfl⟩, X3, Hgr3.out, Hoff3.out, .inr ⟨k, by simpa using hk, Hj3.out⟩⟩
     ·rw [hi]
      gi_wp2
      refine HR.out.mono ?_
      rintro e W3 ⟨X3, hg3, ho3, h3⟩
      have hcell3 : W3.heap[B]? = some (.cells #[.string s1] 9 (0, 0)) := (ho3.block _ (Array.getElem?_eq_some_iff.1 Hcell2.out).1 hXB).trans Hcell2.out
      have hc3 : W3.cell? ⟨B, 0, none⟩ = some (.string s1) := by simp [World.cell?, hcell3]
      have hf3 : W3.frozen? ⟨B, 0, none⟩ = false := by simp [World.frozen?, hcell3]
      have hoff3 : Off (fun b => X b ∨ b = B) W W3 := (Hoff.out.trans (Hoff12.out _ (.inr rfl))).trans' ho3 (fun b hb => by
       rcases Hgr.out b hb with h | h
       ·exact .inl (.inl h)
       ·exact .inr h)
      have hgr3 : Grew X W X3 := Hgr.out.trans hg3 (Nat.le_trans Hoff.out.size (Hoff12.out (fun b => b = B) rfl).size)
      have Hcell3 := Lib.hid hcell3; have Hoff3 := Lib.hid hoff3; have Hgr3 := Lib.hid hgr3
      have hX3 : ¬ X3 B := fun h => by
       rcases hg3 B h with h1 | h1
       ·exact hXB h1
       ·have := (Array.getElem?_eq_some_iff.1 Hcell2.out).1; omega
      have HX3 := Lib.hid hX3
      clear hcell3 hoff3 hgr3 hg3 ho3 hX3
      rcases h3 with ⟨rfl, hj3⟩ | ⟨rfl, hj3⟩
      ·have Hj3 := Lib.hid hj3; clear hj3
       gi_wp2
       have hsz3 : (s1.extract m s1.size).size = s1.size - m := by rw [Lib.size_eq, Lib.extract_to_end, List.length_drop, ← Lib.size_eq]
       gi_roundg (s1.extract m s1.size).size
       case measure => rw [hsz3]; omega
       case rel =>
        refine ⟨k + 1, s1.extract m s1.size, X3, Nat.le_refl _, by rw [hsz3]; omega, Hn2.out _ (Lib.extract_to_end _ _), ?_, HJ.out.1 _ _ _ _ Hj3.out (Off.setCell _ _ _ HX3.out), Hgr3.out, Hoff3.out.trans (Off.setCell _ _ _ (.inr rfl))⟩
        simp only [World.setCell, Array.getElem?_modify, Hcell3.out]; simp
      ·have Hj3 := Lib.hid hj3; clear hj3
       gi_wp2
       refine bodyPost_ret (results_none rfl _ _ _) rfl ?_
       exact ⟨⟨_, rfl⟩, X3, Hgr3.out, Hoff3.out, .inr ⟨k, by simpa using hk, Hj3.out⟩⟩
   ·obtain rfl : j = s.size := by omega
    have htr := trim_at hjle hbl.out (fun h => absurd h (Nat.lt_irrefl _))
    have hne : (s.extract s.size s.size).toList.isEmpty = true := by rw [Lib.toList_data, Lib.extract_to_end]; simp
    have Htr := Lib.hid htr; clear htr
    gi_wp2
    refine bodyPost_ret (results_none rfl _ _ _) rfl ?_
    have hXB : ¬ X' B := fun h => by
     rcases Hgr.out B h with h1 | h1
     ·exact (HX.out B h1).1 rfl
     ·have := (Array.getElem?_eq_some_iff.1 HW.out).1; omega
    have hd := Hat.out.done (by rw [Htr.out]; simp)
    refine ⟨⟨_, rfl⟩, X', Hgr.out, Hoff.out.trans (Off.setCell _ _ _ (.inr rfl)), .inl ?_⟩
    rw [← hd]
    exact HJ.out.1 _ _ _ _ Hj.out (Off.setCell _ _ _ hXB)
end Go.Proofs.YtmbhkkophkccbaaGreat.WordIt
end
section
namespace Go.Proofs.YtmbhkkophkccbaaGreat.WordHas
open Go Go.RowKit Go.Shelf WS Go.Proofs.YtmbhkkophkccbaaGreat.Seq WordIt Mem
set_option linter.unusedVariables false
set_option linter.unusedSimpArgs false
def cnt (l : List (List UInt8)) (x : ByteArray) : Option Int := if x.data.toList ∈ l then some (l.count x.data.toList : Int) else none
theorem cnt_snoc (l : List (List UInt8)) (y : List UInt8) : (fun x' => if x' = (⟨y.toArray⟩ : ByteArray) then some ((cnt l ⟨y.toArray⟩).getD 0 + 1) else cnt l x') = cnt (l ++ [y]) := by
 funext x
 have hx : x = (⟨y.toArray⟩ : ByteArray) ↔ x.data.toList = y := by
  constructor
  ·rintro rfl; rfl
  ·intro h; rw [← h]
 unfold cnt
 by_cases h : x = (⟨y.toArray⟩ : ByteArray)
 ·rw [if_pos h]
  have h' := hx.1 h
  have e1 : (⟨y.toArray⟩ : ByteArray).data.toList = y := rfl
  rw [h', e1, if_pos (show y ∈ l ++ [y] by simp)]
  simp only [List.count_append, List.count_singleton_self]
  by_cases hm : y ∈ l
  ·rw [if_pos hm]; rfl
  ·rw [if_neg hm, List.count_eq_zero_of_not_mem hm]; rfl
 ·rw [if_neg h]
  have h' : ¬ x.data.toList = y := fun e => h (hx.2 e)
  have hc : [y].count x.data.toList = 0 := List.count_eq_zero_of_not_mem (by simp [h'])
  by_cases hm : x.data.toList ∈ l
  ·rw [if_pos hm, if_pos (by simp [hm]), List.count_append, hc]; rfl
  ·rw [if_neg hm, if_neg (by simp [hm, h'])]
theorem info_str : (Tryz.prog.info? 9).map (fun i => (i.zero, i.size, i.bytes)) = some (some (.string ⟨#[]⟩), 1, 16) := by kernel_rfl
theorem once_snoc' (l : List (List UInt8)) (y : List UInt8) : once (l ++ [y]) = if (cnt (l ++ [y]) ⟨y.toArray⟩).getD 0 = 1 then once l ++ [y] else once l := by
 rw [once_snoc]
 have : cnt (l ++ [y]) ⟨y.toArray⟩ = some ((l.count y : Int) + 1) := by
  unfold cnt; simp
 rw [this]
 by_cases h : y ∈ once l
 ·rw [if_pos h]
  have := List.count_pos_iff.2 ((mem_once l y).1 h)
  rw [if_neg (by simp; omega)]
 ·rw [if_neg h, if_pos]
  rw [List.count_eq_zero_of_not_mem (fun hm => h ((mem_once l y).2 hm))]; rfl

theorem own_base {w : World} {base base' n sz : Nat} {e : TypeId} {v : Value} {xs : List Value} (h : w.ownsRow base e sz v n xs) (hb : base' ≤ base) : w.ownsRow base' e sz v n xs := by
 obtain ⟨h1, h2⟩ := h
 refine ⟨h1, ?_⟩
 rcases h2 with h2 | ⟨g, cap, cur, rfl, hg, r⟩
 ·exact .inl h2
 ·exact .inr ⟨g, cap, cur, rfl, Nat.le_trans hb hg, r⟩
end Go.Proofs.YtmbhkkophkccbaaGreat.WordHas
end
