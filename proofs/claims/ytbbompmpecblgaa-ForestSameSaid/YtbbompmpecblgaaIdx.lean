/- strings.IndexAny of the five blanks, at every string. -/
import Derived.Test.YtbbompmpecblgaaProg
import Derived.Test.YtbbompmpecblgaaWSpec
import Derived.Test.YtbbompmpecblgaaShelfA
import Derived.Lib.SpaceUEq
import Derived.Lib.QuoteLoop
import Derived.Lib.OthersKept
import Derived.Lib.IndexAny
import Derived.Lib.IndexBytes
import Derived.Deep.LoopGhost
import Derived.Laws.RangeAny
import Derived.Below
import Derived.OwnWalk
import Derived.Tactics
import Derived.WalkKit
import Derived.WalkMore
import Derived.KernelRfl
import Derived.RowKit3
import Derived.LoopTactic
import Derived.LoopN
import Derived.Outline
import Derived.Deep.QuietTactic
import Derived.BigQuiet
import Derived.RegionTactic
import Derived.Lib.Hide
namespace Go.Proofs.Ytbbompmpecblgaa.Idx
open Go Go.RowKit Go.Proofs.Ytbbompmpecblgaa.WS
set_option linter.unusedVariables false
set_option linter.unusedSimpArgs false
theorem ret_int {a b : Int} (h : a = b) : Ending.returned (.int .i64 a) = .returned (.int .i64 b) := by rw [h]
def blankS : ByteArray := ⟨#[9, 10, 12, 13, 32]⟩

theorem enc_far (r : Int) (h1 : 128 ≤ r) (hv : Lib.validRune r = true) : ∃ (rs : ByteArray) (x : UInt8), (rs.size = 2 ∨ rs.size = 3 ∨ rs.size = 4) ∧ (∀ h : rs.size - 1 < rs.size, rs[rs.size - 1] = x) ∧ 128 ≤ x.toNat ∧ ∀ W : World, (convert 21 9 (.int .i32 r)).run Try.prog W = .ok (.string rs) W := by
  have hcv : ∀ W : World, (convert 21 9 (.int .i32 r)).run Try.prog W = .ok (.string (Utf8.encode r)) W := fun W => by
    simp [convert, run_underlying Try.underlying21, run_underlying Try.underlying9, Conv.intToString]
  have hlast : ∀ n : Nat, 128 ≤ (UInt8.ofNat (128 + n % 64)).toNat := fun n => by
    rw [UInt8.toNat_ofNat_of_lt' (by show 128 + n % 64 < 256; omega)]; omega
  generalize hc : (if Utf8.valid r then r.toNat else Utf8.runeError) = c
  have hc128 : 128 ≤ c := by
    rw [← hc]; split
    · omega
    · decide
  have he : Utf8.encode r = if c < 0x80 then ⟨#[UInt8.ofNat c]⟩
      else if c < 0x800 then ⟨#[UInt8.ofNat (0xC0 + c / 64), UInt8.ofNat (0x80 + c % 64)]⟩
      else if c < 0x10000 then ⟨#[UInt8.ofNat (0xE0 + c / 4096), UInt8.ofNat (0x80 + c / 64 % 64), UInt8.ofNat (0x80 + c % 64)]⟩
      else ⟨#[UInt8.ofNat (0xF0 + c / 262144), UInt8.ofNat (0x80 + c / 4096 % 64), UInt8.ofNat (0x80 + c / 64 % 64), UInt8.ofNat (0x80 + c % 64)]⟩ := by rw [← hc]; rfl
  rw [if_neg (by omega)] at he
  refine ⟨_, UInt8.ofNat (128 + c % 64), ?_, ?_, hlast c, hcv⟩
  · rw [he]; split
    · exact .inl rfl
    · split
      · exact .inr (.inl rfl)
      · exact .inr (.inr rfl)
  · rw [he]; split
    · intro _; rfl
    · split
      · intro _; rfl
      · intro _; rfl
theorem pw_drewN {B : Nat} {w W : World} (h : Below B w W) (n : Nat) : Below B w (W.drewN n) := ⟨h.os, h.tape, h.output, h.size, h.block⟩
theorem far (x : UInt8) (h : 128 ≤ x.toNat) : ((10 : Int) == (x.toNat : Int)) = false ∧ ((12 : Int) == (x.toNat : Int)) = false ∧ ((13 : Int) == (x.toNat : Int)) = false ∧
    Lib.indexByte [12, 13, 32] x = -1 ∧ Lib.indexByte [13, 32] x = -1 ∧ Lib.indexByte [32] x = -1 ∧ ((((⟨#[9, 10, 12, 13, 32]⟩ : ByteArray)[1]'(by decide)).toNat : Int) != (x.toNat : Int)) = true ∧ ((((⟨#[9, 10, 12, 13, 32]⟩ : ByteArray)[2]'(by decide)).toNat : Int) != (x.toNat : Int)) = true ∧ ((((⟨#[9, 10, 12, 13, 32]⟩ : ByteArray)[3]'(by decide)).toNat : Int) != (x.toNat : Int)) = true := by
  have key : ∀ n : Fin 256, 128 ≤ n.val → Lib.indexByte [12, 13, 32] (UInt8.ofNat n.val) = -1 ∧ Lib.indexByte [13, 32] (UInt8.ofNat n.val) = -1 ∧ Lib.indexByte [32] (UInt8.ofNat n.val) = -1 := by decide +kernel
  have k := key ⟨x.toNat, x.toNat_lt⟩ h
  simp only [UInt8.ofNat_toNat] at k
  refine ⟨?_, ?_, ?_, k.1, k.2.1, k.2.2, ?_, ?_, ?_⟩
  · exact beq_eq_false_iff_ne.2 (by omega)
  · exact beq_eq_false_iff_ne.2 (by omega)
  · exact beq_eq_false_iff_ne.2 (by omega)
  · exact bne_iff_ne.2 (by show ((10 : Nat) : Int) ≠ _; omega)
  · exact bne_iff_ne.2 (by show ((12 : Nat) : Int) ≠ _; omega)
  · exact bne_iff_ne.2 (by show ((13 : Nat) : Int) ≠ _; omega)
set_option maxHeartbeats 800000 in
set_option maxRecDepth 100000 in
theorem IndexRune_far (r : Int) (w : World) (h1 : 128 ≤ r) (hv : Lib.validRune r = true) :
    Calls Try.prog 98 #[.string ⟨#[9, 10, 12, 13, 32]⟩, .int .i32 r] w fun e w' => e = .returned (.int .i64 (-1)) ∧ Below w.heap.size w w' := by
  by_cases he : r = 65533
  · subst he
    have n0 := fun ty => run_next_ascii (P := Try.prog) w ⟨#[9, 10, 12, 13, 32]⟩ 0 ty (by decide) (by decide)
    have n1 := fun ty => run_next_ascii (P := Try.prog) w ⟨#[9, 10, 12, 13, 32]⟩ 1 ty (by decide) (by decide)
    have n2 := fun ty => run_next_ascii (P := Try.prog) w ⟨#[9, 10, 12, 13, 32]⟩ 2 ty (by decide) (by decide)
    have n3 := fun ty => run_next_ascii (P := Try.prog) w ⟨#[9, 10, 12, 13, 32]⟩ 3 ty (by decide) (by decide)
    have n4 := fun ty => run_next_ascii (P := Try.prog) w ⟨#[9, 10, 12, 13, 32]⟩ 4 ty (by decide) (by decide)
    have n5 := fun ty => run_next_end (P := Try.prog) w ⟨#[9, 10, 12, 13, 32]⟩ 5 ty (by decide)
    go_enter Try.func98, Try.ntmps98
    go_wp2_with fail
    refine wp_loop_rounds 6 ?_
    rw [rounds_succ]
    go_wp2
    rw [rounds_succ]
    go_wp2
    rw [rounds_succ]
    go_wp2
    rw [rounds_succ]
    go_wp2
    rw [rounds_succ]
    go_wp2
    rw [rounds_succ]
    go_wp2
    go_ret
    exact ⟨rfl, by unfold World.iter; exact (Below.refl _ _).alloc (Nat.le_refl _) _⟩
  · have he1 : (r == 65533) = false := beq_eq_false_iff_ne.2 he
    obtain ⟨rs, x, hrs, hlast, hx, hcv⟩ : ∃ (rs : ByteArray) (x : UInt8), (rs.size = 2 ∨ rs.size = 3 ∨ rs.size = 4) ∧ (∀ h : rs.size - 1 < rs.size, rs[rs.size - 1] = x) ∧ 128 ≤ x.toNat ∧ ∀ W : World, (convert 21 9 (.int .i32 r)).run Try.prog W = .ok (.string rs) W := by
      exact enc_far r h1 hv
    obtain ⟨f1, f2, f3, e1, e2, e3, g1, g2, g3⟩ := far x hx
    have HX := Lib.hid hx; clear hx
    rcases hrs with hrs | hrs | hrs
    · have hl : rs[1]'(by omega) = x := by simpa [hrs] using hlast (by omega)
      have hib : ∀ W, Calls Try.prog 59 #[.string ((⟨#[9, 10, 12, 13, 32]⟩ : ByteArray).extract 2 5), .int .u8 (x.toNat : Int)] W fun e w' => e = .returned (.int .i64 (-1)) ∧ w' = W := fun W =>
        (Try.strings_IndexByte _ _ _).mono (by rintro e w' ⟨rfl, rfl⟩; refine ⟨ret_int ?_, rfl⟩; rw [show ((x.toNat : Int)).toNat.toUInt8 = x by simp]; exact e1)
      clear hlast e1 e2 e3
      go_enter Try.func98, Try.ntmps98
      go_wp2_with (go_at_call 141; refine (Try.utf8_ValidRune _ _).mono ?_; rintro e w' ⟨rfl, rfl⟩; rw [hv])
      go_step3
      go_wp2_with fail
      refine wp_loop_rounds 1 ?_
      rw [rounds_succ]
      go_wp2_with fail
      go_step3
      go_wp2_with fail
      go_region
      go_wp2_with fail
      go_big_quiet (((with_reducible refine (hib _).mono ?_); rintro e w'' ⟨he, rfl⟩; exact ⟨he, _, rfl⟩))
      go_wp2
      rw [Exit.noGoto_ret]
      simp only [Exit.inBlock, Exit.then, Exit.noGoto_ret]
      go_ret
      exact ⟨rfl, by first | exact (Below.refl _ _).drew | (refine pw_drewN ?_ _; first | exact (Below.refl _ _).drew | exact Below.refl _ _)⟩
    · have hl : rs[2]'(by omega) = x := by simpa [hrs] using hlast (by omega)
      have hib : ∀ W, Calls Try.prog 59 #[.string ((⟨#[9, 10, 12, 13, 32]⟩ : ByteArray).extract 3 5), .int .u8 (x.toNat : Int)] W fun e w' => e = .returned (.int .i64 (-1)) ∧ w' = W := fun W =>
        (Try.strings_IndexByte _ _ _).mono (by rintro e w' ⟨rfl, rfl⟩; refine ⟨ret_int ?_, rfl⟩; rw [show ((x.toNat : Int)).toNat.toUInt8 = x by simp]; exact e2)
      clear hlast e1 e2 e3
      go_enter Try.func98, Try.ntmps98
      go_wp2_with (go_at_call 141; refine (Try.utf8_ValidRune _ _).mono ?_; rintro e w' ⟨rfl, rfl⟩; rw [hv])
      go_step3
      go_wp2_with fail
      refine wp_loop_rounds 1 ?_
      rw [rounds_succ]
      go_wp2_with fail
      go_step3
      go_wp2_with fail
      go_region
      go_wp2_with fail
      go_big_quiet (((with_reducible refine (hib _).mono ?_); rintro e w'' ⟨he, rfl⟩; exact ⟨he, _, rfl⟩))
      go_wp2
      rw [Exit.noGoto_ret]
      simp only [Exit.inBlock, Exit.then, Exit.noGoto_ret]
      go_ret
      exact ⟨rfl, by first | exact (Below.refl _ _).drew | (refine pw_drewN ?_ _; first | exact (Below.refl _ _).drew | exact Below.refl _ _)⟩
    · have hl : rs[3]'(by omega) = x := by simpa [hrs] using hlast (by omega)
      have hib : ∀ W, Calls Try.prog 59 #[.string ((⟨#[9, 10, 12, 13, 32]⟩ : ByteArray).extract 4 5), .int .u8 (x.toNat : Int)] W fun e w' => e = .returned (.int .i64 (-1)) ∧ w' = W := fun W =>
        (Try.strings_IndexByte _ _ _).mono (by rintro e w' ⟨rfl, rfl⟩; refine ⟨ret_int ?_, rfl⟩; rw [show ((x.toNat : Int)).toNat.toUInt8 = x by simp]; exact e3)
      clear hlast e1 e2 e3
      go_enter Try.func98, Try.ntmps98
      go_wp2_with (go_at_call 141; refine (Try.utf8_ValidRune _ _).mono ?_; rintro e w' ⟨rfl, rfl⟩; rw [hv])
      go_step3
      go_wp2_with fail
      refine wp_loop_rounds 1 ?_
      rw [rounds_succ]
      go_wp2_with fail
      go_step3
      go_wp2_with fail
      go_region
      go_wp2_with fail
      go_big_quiet (((with_reducible refine (hib _).mono ?_); rintro e w'' ⟨he, rfl⟩; exact ⟨he, _, rfl⟩))
      go_wp2
      rw [Exit.noGoto_ret]
      simp only [Exit.inBlock, Exit.then, Exit.noGoto_ret]
      go_ret
      exact ⟨rfl, by first | exact (Below.refl _ _).drew | (refine pw_drewN ?_ _; first | exact (Below.refl _ _).drew | exact Below.refl _ _)⟩
/-- A rune that is no ASCII byte: it is far, and so is each of its bytes. -/
theorem decode_far (s : ByteArray) (i : Nat) (h : i < s.size) (hx : 128 ≤ (s[i]).toNat) :
    128 ≤ (Utf8.decode s i).1 ∧ Lib.validRune ((Utf8.decode s i).1 : Int) = true ∧ 1 ≤ (Utf8.decode s i).2 ∧ i + (Utf8.decode s i).2 ≤ s.size ∧ ∀ j, j < (Utf8.decode s i).2 → 128 ≤ (s.data.toList.getD (i + j) 0).toNat := by
  have e0 : (s.data.toList.getD i 0) = s[i] := by
    rw [List.getD_eq_getElem?_getD, List.getElem?_eq_getElem (by simpa using h)]; rfl
  rw [Lib.decode_N]
  have hl : s.data.toList.length = s.size := by simp
  have hb0 : 128 ≤ (s.data.toList.getD i 0).toNat := by rw [e0]; exact hx
  have hlt : ∀ k, (s.data.toList.getD k 0).toNat < 256 := fun k => UInt8.toNat_lt _
  have k1 := Lib.decodeN_cases (s.data.toList.length - i) (s.data.toList.getD i 0).toNat (s.data.toList.getD (i + 1) 0).toNat (s.data.toList.getD (i + 2) 0).toNat (s.data.toList.getD (i + 3) 0).toNat
  have k2 := Lib.decodeN_conts (s.data.toList.length - i) (s.data.toList.getD i 0).toNat (s.data.toList.getD (i + 1) 0).toNat (s.data.toList.getD (i + 2) 0).toNat (s.data.toList.getD (i + 3) 0).toNat
  have k3 := Lib.decodeN_valid (s.data.toList.length - i) (s.data.toList.getD i 0).toNat (s.data.toList.getD (i + 1) 0).toNat (s.data.toList.getD (i + 2) 0).toNat (s.data.toList.getD (i + 3) 0).toNat (hlt _)
  have k4 := Lib.decodeN_ge1 (s.data.toList.length - i) (s.data.toList.getD i 0).toNat (s.data.toList.getD (i + 1) 0).toNat (s.data.toList.getD (i + 2) 0).toNat (s.data.toList.getD (i + 3) 0).toNat
  have k5 := Lib.decodeN_width_le (s.data.toList.length - i) (s.data.toList.getD i 0).toNat (s.data.toList.getD (i + 1) 0).toNat (s.data.toList.getD (i + 2) 0).toNat (s.data.toList.getD (i + 3) 0).toNat (by omega)
  generalize Lib.decodeN (s.data.toList.length - i) (s.data.toList.getD i 0).toNat (s.data.toList.getD (i + 1) 0).toNat (s.data.toList.getD (i + 2) 0).toNat (s.data.toList.getD (i + 3) 0).toNat = d at *
  obtain ⟨c1, c2, c3, c4⟩ := k2
  refine ⟨?_, ?_, k4, by omega, fun j hj => ?_⟩
  · rcases k1 with ⟨h1, _⟩ | ⟨_, _, _, h4, rfl⟩ | ⟨_, _, _, _, h4, rfl⟩ | ⟨h4, _⟩ | rfl
    · omega
    · exact h4
    · show 128 ≤ _; omega
    · omega
    · decide
  · unfold Lib.validRune; simp; omega
  · match j, hj with
    | 0, _ => exact hb0
    | 1, hj => have := (c1 (by omega)).1; omega
    | 2, hj => have := (c2 (by omega)).1; omega
    | 3, hj => have := (c3 (by omega)).1; omega
    | j + 4, hj => omega
def blankL : List UInt8 := [9, 10, 12, 13, 32]
theorem noAny_far {l : List UInt8} {i : Nat} (h : Lib.NoAny l blankL i) (n : Nat) (hn : ∀ j, j < n → 128 ≤ (l.getD (i + j) 0).toNat) : Lib.NoAny l blankL (i + n) := by
  intro j b hj hb
  rcases Nat.lt_or_ge j i with h1 | h1
  · exact h j b h1 hb
  · have := hn (j - i) (by omega)
    rw [show i + (j - i) = j by omega, List.getD_eq_getElem?_getD, hb] at this
    have h2 : 128 ≤ b.toNat := this
    have key : ∀ n : Fin 256, 128 ≤ n.val → blankL.contains (UInt8.ofNat n.val) = false := by decide +kernel
    have := key ⟨b.toNat, b.toNat_lt⟩ h2
    simpa using this
set_option maxHeartbeats 800000 in
set_option maxRecDepth 100000 in
theorem IndexAny_short (s : ByteArray) (w : World) (h8 : s.size ≤ 8) :
    Calls Try.prog 84 #[.string s, .string ⟨#[9, 10, 12, 13, 32]⟩] w fun e w' => e = .returned (.int .i64 (Lib.indexAny s.data.toList blankL)) ∧ Below w.heap.size w w' := by
  have h8z : decide ((8 : Int) < (s.size : Int)) = false := decide_eq_false (by omega)
  go_enter Try.func84, Try.ntmps84
  go_wp2_with (go_at_call 99; refine (Try.strings_shouldUseASCIISet _ _).mono ?_; rintro e w' ⟨rfl, hw⟩; rw [hw, h8z])
  go_loopg [9, 10] s.size (fun g _ _ wx => ∃ i : Nat, i ≤ s.size ∧ s.size - i ≤ g ∧ wx.heap[w.heap.size]? = some (.stringIter s i) ∧ Lib.NoAny s.data.toList blankL i ∧ Below w.heap.size w wx)
  case atStart => exact ⟨0, by omega, by omega, World.iter_heap _ _ _, Lib.NoAny.zero _ _, by unfold World.iter; exact (Below.refl _ _).alloc (Nat.le_refl _) _⟩
  case round =>
    obtain ⟨i, hi, hig, hk, hno, hb⟩ := hrel
    have HN := Lib.hid hno; clear hno
    have HK := Lib.hid hk; clear hk
    by_cases hlt : i < s.size
    · obtain ⟨g, rfl⟩ : ∃ g, gk = g + 1 := ⟨gk - 1, by omega⟩
      have hxl : s.data.toList[i]? = some s[i] := Lib.data_getElem? s i hlt
      have Hx := Lib.hid hxl; clear hxl
      by_cases h128 : (s[i]).toNat < 128
      · have hnx := fun ty => Lib.run_next_ascii_at (P := Try.prog) _ w.heap.size s i ty HK.out hlt h128
        have hcon := Lib.contains_iff_indexByte blankL s[i]
        have hback : (((s[i]).toNat : Int)).toNat.toUInt8 = s[i] := by simp
        cases hin : blankL.contains s[i] with
        | false =>
          rw [hin] at hcon
          have hge : decide ((0 : Int) ≤ Lib.indexByte [9, 10, 12, 13, 32] s[i]) = false := hcon.symm
          clear hcon
          go_wp2_with (go_at_call 98; refine (Try.strings_IndexRune_ascii _ _ _ (by omega) (by omega)).mono ?_; rintro e w' ⟨rfl, hw⟩; rw [hw, hback])
          go_roundg g
          case measure => omega
          case rel => exact ⟨i + 1, by omega, by omega, Lib.iterAt_heap _ _ _ _ _ HK.out, HN.out.succ Hx.out hin, Lib.below_iterAt hb (Nat.le_refl _) _ _⟩
        | true =>
          rw [hin] at hcon
          have hge : decide ((0 : Int) ≤ Lib.indexByte [9, 10, 12, 13, 32] s[i]) = true := hcon.symm
          clear hcon
          go_wp2_with (go_at_call 98; refine (Try.strings_IndexRune_ascii _ _ _ (by omega) (by omega)).mono ?_; rintro e w' ⟨rfl, hw⟩; rw [hw, hback])
          go_ret
          exact ⟨by rw [Lib.indexAny_hit HN.out Hx.out hin]; rfl, Lib.below_iterAt hb (Nat.le_refl _) _ _⟩
      · obtain ⟨d1, d2, d3, d4, d5⟩ := decode_far s i hlt (by omega)
        have hnx := fun ty => Lib.run_next_any_at (P := Try.prog) _ w.heap.size s i ty HK.out hlt
        have hic := Lib.iterAt_heap _ w.heap.size s i (i + (Utf8.decode s i).2) HK.out
        have D5 := Lib.hid d5; clear d5
        generalize hd : Utf8.decode s i = d at *
        have Hd := Lib.hid hd; clear hd
        obtain ⟨r, n⟩ := d
        dsimp only at *
        have HI := Lib.hid hic; clear hic
        have hb1 := Lib.below_iterAt hb (Nat.le_refl _) s (i + n)
        go_wp2_with (go_at_call 98; refine (IndexRune_far _ _ (by omega) d2).mono ?_; rintro e w' ⟨rfl, hw⟩)
        go_roundg g
        case measure => omega
        case rel => 
          have hb2 := hb1.trans (hw.mono hb1.size)
          exact ⟨i + n, by omega, by omega, (hw.block _ (Array.getElem?_eq_some_iff.1 HI.out).1).trans HI.out, noAny_far HN.out n D5.out, hb2⟩
    · obtain rfl : i = s.size := by omega
      have hnx := fun ty => Lib.run_next_end_at (P := Try.prog) _ w.heap.size s s.size ty HK.out (by omega)
      go_wp2
      go_ret
      exact ⟨by rw [Lib.indexAny_none (by rw [← Lib.size_eq]; exact HN.out)]; rfl, hb⟩
theorem IndexAny_calls (s : ByteArray) (w : World) (hs : s.size < 4294967281) :
    Calls Try.prog 84 #[.string s, .string ⟨#[9, 10, 12, 13, 32]⟩] w fun e w' => e = .returned (.int .i64 (Lib.indexAny s.data.toList blankL)) ∧ Below w.heap.size w w' := by
  by_cases h8 : s.size ≤ 8
  · exact IndexAny_short s w h8
  · refine (Try.strings_IndexAny_long (fun w => by kernel_rfl) s ⟨#[9, 10, 12, 13, 32]⟩ w (by decide) (by omega) hs (by decide) ?_).mono ?_
    · intro j b hb
      have hm : b ∈ blankL := List.mem_of_getElem? hb
      revert hm; simp [blankL]; rintro (rfl | rfl | rfl | rfl | rfl) <;> decide
    · rintro e w' ⟨rfl, rfl⟩
      exact ⟨rfl, ((Below.refl _ _).alloc (Nat.le_refl _) _).alloc (by simp) _⟩
end Go.Proofs.Ytbbompmpecblgaa.Idx
