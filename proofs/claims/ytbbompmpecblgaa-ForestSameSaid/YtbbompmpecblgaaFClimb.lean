/- forest.climbs. -/
import Derived.Test.YtbbompmpecblgaaFFam
namespace Go.Proofs.Ytbbompmpecblgaa.FClimb
open Go Go.RowKit Go.Proofs.Ytbbompmpecblgaa.Seq Go.Proofs.Ytbbompmpecblgaa.WS Go.Proofs.Ytbbompmpecblgaa.FS Go.Proofs.Ytbbompmpecblgaa.WordIt Go.Proofs.Ytbbompmpecblgaa.Mem Go.Proofs.Ytbbompmpecblgaa.Rd Go.Proofs.Ytbbompmpecblgaa.Word Go.Proofs.Ytbbompmpecblgaa.WordHas Go.Proofs.Ytbbompmpecblgaa.Shapes Go.Proofs.Ytbbompmpecblgaa.FFam
set_option linter.unusedVariables false
set_option linter.unusedSimpArgs false

def dRow (n : Nat) (d : Nat → Int) : List Value := (List.range n).map (fun i => Value.int .i64 (d i))
theorem dRow_length (n : Nat) (d : Nat → Int) : (dRow n d).length = n := by simp [dRow]
theorem dRow_get {n : Nat} {d : Nat → Int} {i : Nat} (hi : i < n) : (dRow n d)[i]? = some (Value.int .i64 (d i)) := by simp [dRow, hi]
def upd (d : Nat → Int) (i : Nat) (x : Int) : Nat → Int := fun j => if j = i then x else d j
theorem dRow_set {n : Nat} {d : Nat → Int} {i : Nat} (hi : i < n) (x : Int) : (dRow n d).set i (Value.int .i64 x) = dRow n (upd d i x) := by
  apply List.ext_getElem?
  intro j
  rw [List.getElem?_set]
  by_cases hj : i = j
  · subst hj
    rw [if_pos rfl, if_pos (by rw [dRow_length]; exact hi), dRow_get hi]
    simp [upd]
  · rw [if_neg hj]
    by_cases hjn : j < n
    · rw [dRow_get hjn, dRow_get hjn, upd, if_neg (fun e => hj e.symm)]
    · rw [List.getElem?_eq_none (by rw [dRow_length]; omega), List.getElem?_eq_none (by rw [dRow_length]; omega)]
def zeros (n : Nat) (d : Nat → Int) : Nat := (List.range n).countP (fun j => d j == 0)
theorem zeros_upd {n : Nat} {d : Nat → Int} {i : Nat} (hi : i < n) (h : d i = 0) {x : Int} (hx : x ≠ 0) : zeros n (upd d i x) + 1 = zeros n d := by
  unfold zeros
  induction n with
  | zero => omega
  | succ n ih =>
    rw [List.range_succ, List.countP_append, List.countP_append, List.countP_singleton, List.countP_singleton]
    by_cases e : i = n
    · subst e
      have : (List.range i).countP (fun j => upd d i x j == 0) = (List.range i).countP (fun j => d j == 0) := by
        apply List.countP_congr
        intro j hj
        rw [List.mem_range] at hj
        rw [upd, if_neg (by omega)]
      rw [this]
      simp [upd, h, hx]
    · have := ih (by omega)
      have e2 : upd d i x n = d n := by rw [upd, if_neg (fun h => e h.symm)]
      rw [e2]
      omega

/-- What lies in memory while nodes climb. -/
structure CInv (f : Fo) (bd bc bf g base B c : Nat) (A : Option Addr) (d : Nat → Int) (w : World) : Prop where
  vd : w.heap[bd]? = some (.cells #[.slice (some ⟨g, 0, none⟩) f.length f.length] 40 (0, 0))
  vc : w.heap[bc]? = some (.cells #[.func (.func 88) #[] #[.pointer (some ⟨bd, 0, none⟩), .pointer (some ⟨bc, 0, none⟩), .pointer (some ⟨bf, 0, none⟩)]] 117 (0, 0))
  vf : w.heap[bf]? = some (.cells #[.slice A f.length c] 33 (0, 0))
  row : w.ownsRow base 3 1 (.slice (some ⟨g, 0, none⟩) f.length f.length) f.length (dRow f.length d)
  rd : RdF B w (.slice A f.length c) f
  nd : bd ≠ g
  nc : bc ≠ g
  nf : bf ≠ g
  hB : B ≤ g
theorem CInv.keep {f : Fo} {bd bc bf g base B c : Nat} {A : Option Addr} {d : Nat → Int} {w w' : World} (h : CInv f bd bc bf g base B c A d w) (ho : Off (fun b => b = g) w w') {d' : Nat → Int}
    (hr : w'.ownsRow base 3 1 (.slice (some ⟨g, 0, none⟩) f.length f.length) f.length (dRow f.length d')) : CInv f bd bc bf g base B c A d' w' := by
  have hg := (h.row.lt g rfl).2
  exact ⟨ho.keep h.vd h.nd, ho.keep h.vc h.nc, ho.keep h.vf h.nf, hr, h.rd.keep nodeE_keeps (ho.toBelow (Nat.le_trans h.hB (Nat.le_of_lt hg)) (fun b hb => by rw [hb]; exact h.hB)) (Nat.le_refl _), h.nd, h.nc, h.nf, h.hB⟩
theorem CInv.set {f : Fo} {bd bc bf g base B c : Nat} {A : Option Addr} {d : Nat → Int} {w : World} (h : CInv f bd bc bf g base B c A d w) {i : Nat} (hi : i < f.length) (x : Int) :
    CInv f bd bc bf g base B c A (upd d i x) (w.setCell ⟨g, i, none⟩ (.int .i64 x)) := by
  refine h.keep (Off.setCell _ _ _ rfl) ?_
  have := (h.row.stored i (.int .i64 x)).1
  rwa [dRow_set hi] at this
theorem CInv.drewN {f : Fo} {bd bc bf g base B c : Nat} {A : Option Addr} {d : Nat → Int} {w : World} (h : CInv f bd bc bf g base B c A d w) (n : Nat) : CInv f bd bc bf g base B c A d (w.drewN n) :=
  h.keep (Off.drewN _ _ _) (own_keep h.row (fun g hg => rfl))

theorem CInv.drew {f : Fo} {bd bc bf g base B c : Nat} {A : Option Addr} {d : Nat → Int} {w : World} (h : CInv f bd bc bf g base B c A d w) : CInv f bd bc bf g base B c A d w.drew :=
  h.keep (Off.drew _ _) (own_keep h.row (fun g hg => rfl))

/-- What a climb answers. -/
def ClimbPost (f : Fo) (bd bc bf g base B c : Nat) (A : Option Addr) (d : Nat → Int) (i : Int) (w : World) (e : Ending) (w' : World) : Prop :=
  ∃ r d', e = .returned (.bool r) ∧ CInv f bd bc bf g base B c A d' w' ∧ Off (fun b => b = g) w w' ∧
    (r = true → (∃ m, Up f m i) ∧ (∀ j, j < f.length → 0 < d' j → ∃ m, Up f m j) ∧ (∀ j, j < f.length → (d' j < 0 ↔ d j < 0)) ∧ zeros f.length d' ≤ zeros f.length d) ∧
    (r = false → ¬ ∃ m, Up f m i)
theorem zeros_mono {n : Nat} {d : Nat → Int} {i : Nat} {x : Int} (hx : x ≠ 0) : zeros n (upd d i x) ≤ zeros n d := by
  unfold zeros
  apply List.countP_mono_left
  intro j _ h
  unfold upd at h
  by_cases e : j = i
  · rw [if_pos e] at h; simp at h; exact absurd h hx
  · rwa [if_neg e] at h
theorem ClimbPost.back {f : Fo} {bd bc bf g base B c : Nat} {A : Option Addr} {d d' : Nat → Int} {x : Nat} {w w1 w5 : World} {r : Bool} (hx : x < f.length) (h0 : d x = 0) (hI : CInv f bd bc bf g base B c A d' w5) (h1 : Off (fun b => b = g) w w1) (ho : Off (fun b => b = g) w1 w5)
    (ht : r = true → (∃ m, Up f m (at_ f x).parent) ∧ (∀ j, j < f.length → 0 < d' j → ∃ m, Up f m j) ∧ (∀ j, j < f.length → (d' j < 0 ↔ upd d x (-1) j < 0)) ∧ zeros f.length d' ≤ zeros f.length (upd d x (-1)))
    (hf : r = false → ¬ ∃ m, Up f m (at_ f x).parent) : ClimbPost f bd bc bf g base B c A d x w (.returned (.bool r)) (w5.setCell ⟨g, x, none⟩ (.int .i64 1)) := by
  refine ⟨r, upd d' x 1, rfl, hI.set hx 1, (h1.trans ho).trans (Off.setCell _ _ _ rfl), fun h => ?_, fun h => ?_⟩
  · obtain ⟨⟨m, hm⟩, h2, h3, h4⟩ := ht h
    have hup : ∃ m, Up f m (x : Int) := ⟨m + 1, by omega, hm⟩
    refine ⟨hup, fun j hj hd => ?_, fun j hj => ?_, ?_⟩
    · by_cases e : j = x
      · subst e; exact hup
      · rw [upd, if_neg e] at hd; exact h2 j hj hd
    · by_cases e : j = x
      · subst e; simp [upd, h0]
      · rw [upd, if_neg e, h3 j hj, upd, if_neg e]
    · have := zeros_upd hx h0 (x := -1) (by decide)
      have := zeros_mono (n := f.length) (d := d') (i := x) (x := 1) (by decide)
      omega
  · rintro ⟨m, hm⟩
    cases m with
    | zero => have : (x : Int) < 0 := hm; omega
    | succ m => exact hf h ⟨m, hm.2⟩

set_option maxRecDepth 100000 in
set_option maxHeartbeats 4000000 in
theorem climb_calls (f : Fo) (hn : f.length ≤ 60) (hp : ∀ i : Nat, i < f.length → -1 ≤ (at_ f i).parent ∧ (at_ f i).parent < f.length) (bd bc bf g base B c : Nat) (A : Option Addr) (hc : f.length ≤ c) (hc2 : c ≤ 9223372036854775807) (k : Nat) :
    ∀ (i : Int) (d : Nat → Int) (w : World), zeros f.length d ≤ k → -1 ≤ i → i < f.length → CInv f bd bc bf g base B c A d w →
      (∀ j, j < f.length → 0 < d j → ∃ m, Up f m j) → (∀ j, j < f.length → d j < 0 → ∃ m, FS.Reach f (m + 1) j i) →
      Calls Try.prog 88 #[.int .i64 i, .pointer (some ⟨bd, 0, none⟩), .pointer (some ⟨bc, 0, none⟩), .pointer (some ⟨bf, 0, none⟩)] w fun e w' => ClimbPost f bd bc bf g base B c A d i w e w' := by
  induction k using Nat.strongRecOn with
  | _ k ih =>
    intro i d w hz hi0 hi1 hI hgood hpath
    by_cases h1 : i = -1
    · subst h1
      have hup : ∃ m, Up f m (-1) := ⟨0, show (-1 : Int) < 0 by decide⟩
      go_enter Try.func88, Try.ntmps88
      go_wp2_with fail
      go_ret
      exact ⟨true, d, rfl, hI, Off.refl _ _, fun _ => ⟨hup, hgood, fun j hj => Iff.rfl, Nat.le_refl _⟩, fun h => by cases h⟩
    · obtain ⟨x, rfl⟩ : ∃ x : Nat, i = x := ⟨i.toNat, by omega⟩
      have hx : x < f.length := by omega
      have hx1 : ((x : Int) == -1) = false := by rw [beq_eq_false_iff_ne]; omega
      have c1 := cell_of hI.vd
      have c2 := cell_of hI.vc
      have c3 := cell_of hI.vf
      have c4 := hI.row.cellAt x (by omega)
      rw [dRow_get hx] at c4
      have c5 := hI.row.frozenAt x
      have hI1 := hI.set hx (-1)
      have hI1o : Off (fun b => b = g) w (w.setCell ⟨g, x, none⟩ (.int .i64 (-1))) := Off.setCell _ _ _ rfl
      have d1 := cell_of hI1.vd
      have d2 := cell_of hI1.vc
      have d3 := cell_of hI1.vf
      obtain ⟨b, o, _, _, _, _, rfl, hbB, _, _, _, _, n4, _⟩ := node_at hI1.rd hx
      have hpx := hp x hx
      have hat := at_nat hx
      rw [← hat] at n4
      have hst : ∀ n, 0 ≤ (x : Int) ∧ Up f n (at_ f x).parent → ∃ m, Up f m x := fun n h => ⟨n + 1, h⟩
      have hpath' := hpath x hx
      have hrec : d x = 0 → ∀ w1, CInv f bd bc bf g base B c (some ⟨b, o, none⟩) (upd d x (-1)) w1 → Calls Try.prog 88 #[.int .i64 (at_ f x).parent, .pointer (some ⟨bd, 0, none⟩), .pointer (some ⟨bc, 0, none⟩), .pointer (some ⟨bf, 0, none⟩)] w1 fun e w' => ClimbPost f bd bc bf g base B c (some ⟨b, o, none⟩) (upd d x (-1)) (at_ f x).parent w1 e w' := fun h0 w1 hI1 => by
        have hzu := zeros_upd hx h0 (x := -1) (by decide)
        refine ih (k - 1) (by omega) _ _ _ (by omega) hpx.1 hpx.2 hI1 (fun j hj hd => ?_) (fun j hj hd => ?_)
        · unfold upd at hd
          by_cases e : j = x
          · rw [if_pos e] at hd; omega
          · rw [if_neg e] at hd; exact hgood j hj hd
        · unfold upd at hd
          by_cases e : j = x
          · subst e
            exact ⟨0, by omega, rfl⟩
          · rw [if_neg e] at hd
            obtain ⟨m, hm⟩ := hpath j hj hd
            exact ⟨m + 1, hm.snoc (by omega)⟩
      generalize hprr : (at_ f x).parent = pr at *
      have HI := Lib.hid hI; have HI1 := Lib.hid hI1; have HI1o := Lib.hid hI1o; have Hst := Lib.hid hst; have Hgood := Lib.hid hgood; have Hpath := Lib.hid hpath'; have Hrec := Lib.hid hrec; have Hp := Lib.hid hp; have Hpr := Lib.hid hprr
      clear ih hI hI1 hI1o hst hgood hpath hpath' hrec hp hprr hat
      by_cases hpos : 0 < d x
      · have hup := Hgood.out x hx hpos
        have Hup := Lib.hid hup; clear hup
        generalize d x = dx at *
        go_enter Try.func88, Try.ntmps88
        go_wp2_with fail
        go_ret
        exact ⟨true, d, rfl, HI.out, Off.refl _ _, fun _ => ⟨Hup.out, Hgood.out, fun j hj => Iff.rfl, Nat.le_refl _⟩, fun h => by cases h⟩
      · by_cases hneg : d x < 0
        · obtain ⟨m, hm⟩ := Hpath.out hneg
          have hno := no_cycle hm
          have Hno := Lib.hid hno; clear hno hm
          generalize d x = dx at *
          go_enter Try.func88, Try.ntmps88
          go_wp2_with fail
          go_ret
          refine ⟨false, d, rfl, HI.out, Off.refl _ _, ?_, fun _ => Hno.out⟩
          intro h
          cases h
        · have h0 : d x = 0 := by omega
          have Hrec0 := Lib.hid (Hrec.out h0)
          have H0 := Lib.hid h0
          rw [h0] at c4
          clear hpos hneg h0
          go_enter Try.func88, Try.ntmps88
          go_wp2_with fail
          go_region_with (go_at_call 88; (first | with_reducible refine (Hrec0.out _ HI1.out).mono ?_ | with_reducible refine (Hrec0.out _ HI1.out.drew).mono ?_); go_loud (rintro e w5 ⟨r, d', rfl, hI5, ho5, hr5, hf5⟩; have e1 := cell_of hI5.vd; have e4 := hI5.row.cellAt x (by omega); rw [dRow_get hx] at e4; have e5 := hI5.row.frozenAt x; have HI5 := Lib.hid hI5; have Ho5 := Lib.hid ho5; have Hr5 := Lib.hid hr5; have Hf5 := Lib.hid hf5; clear hI5 ho5 hr5 hf5))
          all_goals go_wp2_with fail
          all_goals
            go_ret
            have Hr5' := Hr5.out; have Hf5' := Hf5.out
            rw [← Hpr.out] at Hr5' Hf5'
            first
              | exact ClimbPost.back hx H0.out HI5.out HI1o.out Ho5.out Hr5' Hf5'
              | exact ClimbPost.back hx H0.out HI5.out (HI1o.out.trans (Off.drew _ _)) Ho5.out Hr5' Hf5'
              | (have hb := ClimbPost.back hx H0.out HI5.out.drew HI1o.out (Ho5.out.trans (Off.drew _ _)) Hr5' Hf5'; exact hb)
              | (have hb := ClimbPost.back hx H0.out HI5.out.drew (HI1o.out.trans (Off.drew _ _)) (Ho5.out.trans (Off.drew _ _)) Hr5' Hf5'; exact hb)
end Go.Proofs.Ytbbompmpecblgaa.FClimb
