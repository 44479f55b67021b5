/- Joined by a program: Its, ADo, ShelfD, ShelfE, ATake. -/
import Derived.Deep.AppendLies
import Derived.Deep.RegionLaw
import Derived.Ground.Names2Prog
import Derived.Shelf.Slices.Clone
import Derived.Test.YtbbompmpecblgaaProg
import Derived.Shelf.SlicesE.DeleteFunc
import Derived.Shelf.SlicesE.Clone
import Derived.Ground.SlgfProg
import Derived.Ground.SlgnProg
import Derived.Test.YtbbompmpecblgaaC14
import Derived.Test.YtbbompmpecblgaaC11
section
/- treillagelaw05.its. -/
namespace Go.Proofs.Ytbbompmpecblgaa.Its
open Go Go.RowKit Go.Proofs.Ytbbompmpecblgaa.Seq Go.Proofs.Ytbbompmpecblgaa.WS Go.Proofs.Ytbbompmpecblgaa.FS Go.Proofs.Ytbbompmpecblgaa.Mem Go.Proofs.Ytbbompmpecblgaa.Rd Go.Proofs.Ytbbompmpecblgaa.Shapes Go.Proofs.Ytbbompmpecblgaa.Word Go.Proofs.Ytbbompmpecblgaa.FFam Go.Proofs.Ytbbompmpecblgaa.OwnF
set_option linter.unusedVariables false
set_option linter.unusedSimpArgs false

def atCells (l : List Av) : List Value := l.flatMap (fun a => [.string a.name, .string a.value])
theorem atCells_snoc (l : List Av) (a : Av) : atCells (l ++ [a]) = atCells l ++ [.string a.name, .string a.value] := by unfold atCells; rw [List.flatMap_append]; simp
theorem atCells_length : ∀ l : List Av, (atCells l).length = l.length * 2
  | [] => rfl
  | a :: l => by have := atCells_length l; unfold atCells at this ⊢; rw [List.flatMap_cons, List.length_append, this]; simp; omega
theorem atCells_at : ∀ {l : List Av} {i : Nat} (h : i < l.length), ((atCells l).drop (i * 2)).take 2 = [.string l[i].name, .string l[i].value]
  | a :: l, 0, h => rfl
  | a :: l, i + 1, h => by
    have := atCells_at (l := l) (i := i) (by simpa using h)
    unfold atCells at this ⊢
    rw [List.flatMap_cons, show (i + 1) * 2 = i * 2 + 1 + 1 by omega]
    exact this
theorem rows_attrs {w : World} {base : Nat} {e : TypeId} {v : Value} {l : List Av} {S : Nat → Prop} (h : w.ownsRow base e 2 v l.length (atCells l)) (hS : ∀ g, v.ownBlock = some g → S g) (hm : ∀ a ∈ l, a.name.size ≤ maxLen ∧ a.value.size ≤ maxLen) : RdS attrS 2 S w v l :=
  RdS.of_own h rfl hS (fun i hi => ⟨atCells_at hi, hm _ (List.getElem_mem _)⟩)
theorem info_rnode : (Try.prog.info? 87).map (fun i => (i.zero, i.size, i.bytes)) = some (some (.agg #[.int .i64 0, .string ⟨#[]⟩, .string ⟨#[]⟩, .slice none 0 0, .int .i64 0, .slice none 0 0]), 6, 96) := by kernel_rfl
theorem info_rattr : (Try.prog.info? 88).map (fun i => (i.zero, i.size, i.bytes)) = some (some (.agg #[.string ⟨#[]⟩, .string ⟨#[]⟩]), 2, 32) := by kernel_rfl
/-- The node in the making. -/
def NBox (gn : Nat) (kd : Int) (nm tx : ByteArray) (par : Int) (vk : Value) (l : List Av) (va : Value) (wo wi : World) : Prop :=
  wi.heap[gn]? = some (.cells #[.int .i64 kd, .string nm, .string tx, va, .int .i64 par, vk] 87 (0, 0)) ∧ wi.ownsRow (gn + 1) 88 2 va l.length (atCells l) ∧ Below wo.heap.size wo wi
theorem nbox_step {gn : Nat} {kd : Int} {nm tx : ByteArray} {par : Int} {vk : Value} {l : List Av} {a : Av} {va : Value} {wo wr w7 : World} {g7 n7 cap7 : Nat} {wm : World} (hgn : gn = wo.heap.size)
    (h : NBox gn kd nm tx par vk l va wo wr) (hwm : wm = (wr.alloc (.cells #[.string a.name, .string a.value] 88)).drew)
    (hown : w7.ownsRow (gn + 1) 88 2 (.slice (some ⟨g7, 0, none⟩) n7 cap7) (l ++ [a]).length (atCells (l ++ [a]))) (hgr : wm.grownBy w7 va.ownBlock) (hat : va.ownBlock = some g7 ∨ g7 = wr.heap.size + 1) :
    NBox gn kd nm tx par vk (l ++ [a]) (.slice (some ⟨g7, 0, none⟩) n7 cap7) wo (w7.setCell ⟨gn, 3, none⟩ (.slice (some ⟨g7, 0, none⟩) n7 cap7)) := by
  obtain ⟨h1, h2, h3⟩ := h
  subst hwm
  have hlt := lt_heap h1
  have hne : va.ownBlock ≠ some gn := fun e => by have := (h2.lt gn e).1; omega
  have e7 := (hgr.block gn (Nat.lt_of_lt_of_le hlt (by simp)) (fun e => hne e.symm)).trans (heap_old h1)
  have hg7 : g7 ≠ gn := by
    rcases hat with e | e
    · intro e2; exact hne (by rw [e, e2])
    · omega
  refine ⟨(Repl.setCell_row e7).trans rfl, own_keep hown (fun g hg => heap_other (by injection hg with hg; have : g7 = g := hg; omega)), ?_⟩
  have b1 : Below wo.heap.size wo (wr.alloc (.cells #[.string a.name, .string a.value] 88)).drew := (h3.alloc h3.size _).drew
  have b2 := b1.trans ((Off.grown (Y := fun b => wo.heap.size ≤ b) hgr (fun r hr => by have := (h2.lt r hr).1; omega)).toBelow b1.size (fun b hb => hb))
  exact b2.setCell (by simp; omega) _
  where heap_other {w : World} {b g i : Nat} {v : Value} (h : g ≠ b) : (w.setCell ⟨b, i, none⟩ v).heap[g]? = w.heap[g]? := Below.heap_setCell _ _ _ _ h
theorem attrs_small {B : Nat} {w : World} {v : Value} {l : List Av} (h : RdL attrE 2 B w v l) : ∀ a ∈ l, a.name.size ≤ maxLen ∧ a.value.size ≤ maxLen := by
  intro a ha
  obtain ⟨i, hi, rfl⟩ := List.mem_iff_getElem.1 ha
  obtain ⟨A, c, rfl, _, _, h'⟩ := h.form
  obtain ⟨b, o, cs, _, _, _, _, _, h1, h2⟩ := h'.at_ hi
  exact ⟨h1, h2⟩
theorem out_step {w wo wr w8 : World} {fs : Fo} {k gn : Nat} {kd : Int} {nm tx : ByteArray} {par : Int} {ats : List Av} {kks : List Int} {Ak A3 AO : Option Addr} {ck n3 c3 nO cO : Nat} {xsO : List Value} {v8 : Value} (hkl : fs.length = k)
    (hnd : ∀ i (hi : i < fs.length), nodeS (fun b => (Value.slice AO nO cO).ownBlock ≠ some b) wo ((xsO.drop (i * 6)).take 6) fs[i]) (hro : wo.ownsRow w.heap.size 87 6 (.slice AO nO cO) fs.length xsO)
    (hN : NBox gn kd nm tx par (.slice Ak kks.length ck) ats (.slice A3 n3 c3) wo wr) (hgn : gn = wo.heap.size) (hrk : RdL (intE .i64) 1 w.heap.size wr (.slice Ak kks.length ck) kks)
    (hrO2 : (wr.alloc (.cells #[.int .i64 kd, .string nm, .string tx, .slice A3 n3 c3, .int .i64 par, .slice Ak kks.length ck] 87)).ownsRow w.heap.size 87 6 (.slice AO nO cO) k xsO)
    (hown : w8.ownsRow w.heap.size 87 6 v8 (k + 1) (xsO ++ [.int .i64 kd, .string nm, .string tx, .slice A3 n3 c3, .int .i64 par, .slice Ak kks.length ck]))
    (hgr : (wr.alloc (.cells #[.int .i64 kd, .string nm, .string tx, .slice A3 n3 c3, .int .i64 par, .slice Ak kks.length ck] 87)).grownBy w8 (Value.slice AO nO cO).ownBlock)
    (hat : v8.ownBlock = (Value.slice AO nO cO).ownBlock ∨ v8.ownBlock = some (wr.alloc (.cells #[.int .i64 kd, .string nm, .string tx, .slice A3 n3 c3, .int .i64 par, .slice Ak kks.length ck] 87)).heap.size)
    (ha : ∀ a ∈ ats, a.name.size ≤ maxLen ∧ a.value.size ≤ maxLen) (hsm : nm.size ≤ maxLen ∧ tx.size ≤ maxLen ∧ (Lit.int .i64 kd).wf = true ∧ (Lit.int .i64 par).wf = true) (hws : w.heap.size ≤ wr.heap.size) :
    OwnF 87 w.heap.size w8 v8 (fs ++ [⟨kd, nm, tx, ats, par, kks⟩]) := by
  obtain ⟨hbx, hrow, hbel⟩ := hN
  have hal : ∀ b, b < wr.heap.size → (wr.alloc (.cells #[.int .i64 kd, .string nm, .string tx, .slice A3 n3 c3, .int .i64 par, .slice Ak kks.length ck] 87)).heap[b]? = wr.heap[b]? := fun b hb => Below.heap_alloc _ _ _ hb
  subst hkl
  refine OwnF.more (w := wr.alloc (.cells #[.int .i64 kd, .string nm, .string tx, .slice A3 n3 c3, .int .i64 par, .slice Ak kks.length ck] 87)) (f := fs) (g := [⟨kd, nm, tx, ats, par, kks⟩]) hrO2 (fun i hi => (hnd i hi).keep (fun b _ hb => (hal b (Nat.lt_of_lt_of_le hb hbel.size)).trans (hbel.block b hb)) (by have := hbel.size; simp; omega) (fun _ x _ => x)) rfl (fun i hi => ?_) hown hgr hat
  obtain rfl : i = 0 := by simp at hi; omega
  refine ⟨.slice A3 n3 c3, .slice Ak kks.length ck, rfl, ?_, ?_, hsm⟩
  · refine (rows_attrs (S := fun b => (Value.slice AO nO cO).ownBlock ≠ some b) hrow (fun g hg e => ?_) ha).keep (fun b _ hb => hal b hb) (by simp) (fun _ x _ => x)
    have := (hrow.lt g hg).1
    have := (hro.lt g e).2
    omega
  · exact (RdS.of_rd (E := intS) hrk hws).keep (fun b hb _ => hal b (by omega)) (by simp) (fun b hb _ e => by have := (hro.lt b e).1; omega)
set_option maxRecDepth 100000 in
set_option maxHeartbeats 8000000 in
theorem its_calls (w : World) (v : Value) (f : Fo) (h : RdF w.heap.size w v f) (hl70 : f.length ≤ 1000) (ha12 : ∀ n ∈ f, n.attrs.length ≤ 1000) :
    Calls Try.prog 31 #[v] w fun e w' => ∃ u, e = .returned u ∧ OwnF 87 w.heap.size w' u f ∧ Below w.heap.size w w' := by
  obtain ⟨A0, c0, rfl, hl0, hc0, h'⟩ := h.form
  simp only [maxLen] at hc0
  obtain ⟨i0, hi0, hz0, hz1, hz2⟩ := info_parts info_rnode
  obtain ⟨i1, hi1, hy0, hy1, hy2⟩ := info_parts info_rattr
  have Hh := Lib.hid h'; have Ha := Lib.hid ha12
  clear h h' ha12
  go_enter Try.func31, Try.ntmps31
  go_wp2_with fail
  have hown0 : (w.alloc (.cells #[] 87)).ownsRow w.heap.size 87 6 (.slice (some ⟨w.heap.size, 0, none⟩) 0 0) 0 [] := World.ownsRow_made w #[] 0 (Nat.le_refl _) (by simp [maxLen]) (by simp)
  have hO0 : OwnF 87 w.heap.size (w.alloc (.cells #[] 87)) (.slice (some ⟨w.heap.size, 0, none⟩) 0 0) (f.take 0) := ⟨[], hown0, fun i hi => absurd hi (by simp)⟩
  have HO0 := Lib.hid hO0
  clear hown0 hO0
  go_loopw [3, 4] (fun u i wr => ∃ k : Nat, k ≤ f.length ∧ i = .int .i64 k ∧ Hid (OwnF 87 w.heap.size wr u (f.take k)) ∧ Below w.heap.size w wr) (fun _ i _ => f.length - (intOf i).toNat)
  case atStart => exact ⟨0, Nat.zero_le _, rfl, HO0, (Below.refl _ _).alloc (Nat.le_refl _) _⟩
  case round =>
    obtain ⟨k, hk, rfl, hO, hb⟩ := hrel
    obtain ⟨xsO, hrowO, hndO⟩ := hO.out
    obtain ⟨AO, nO, cO, rfl⟩ := Build.own_form hrowO
    have HrowO := Lib.hid hrowO; have HndO := Lib.hid hndO
    clear hrowO hndO
    by_cases hlt : k < f.length
    · obtain ⟨b, o, Aa, ca, Ak, ck, rfl, hbl, g0, g1, g2, g3, g4, g5, ra, rk, la, lca, lk, lck, m1, m2, m3, m4⟩ := node_at Hh.out hlt
      have han := Ha.out f[k] (List.getElem_mem _)
      have htk : f.take (k + 1) = f.take k ++ [f[k]] := List.take_succ_eq_append_getElem hlt
      generalize f[k] = n at *
      obtain ⟨kd, nm, tx, ats, par, kks⟩ := n
      simp only at *
      simp only [maxLen] at lca lck m1 m2
      have hkeep := fun w' (hb' : Below w.heap.size w w') => (⟨cell_below hb' g0 hbl, cell_below hb' g1 hbl, cell_below hb' g2 hbl, cell_below hb' g3 hbl, cell_below hb' g4 hbl, cell_below hb' g5 hbl⟩ : _ ∧ _ ∧ _ ∧ _ ∧ _ ∧ _)
      obtain ⟨p0, p1, p2, p3, p4, p5⟩ := hkeep wr hb
      have hbwr : b < wr.heap.size := Nat.lt_of_lt_of_le hbl hb.size
      have Hkeep := Lib.hid hkeep; have Hra := Lib.hid ra; have Hrk := Lib.hid rk; have Htk := Lib.hid htk; have Hb := Lib.hid hb; have Hm3 := Lib.hid m3; have Hm4 := Lib.hid m4
      obtain ⟨wo, rfl⟩ : ∃ wo : World, wo = wr := ⟨_, rfl⟩
      have Hsm := Lib.hid (show nm.size ≤ maxLen ∧ tx.size ≤ maxLen ∧ (Lit.int .i64 kd).wf = true ∧ (Lit.int .i64 par).wf = true from ⟨by simp only [maxLen]; omega, by simp only [maxLen]; omega, m3, m4⟩)
      have Ha2 := Lib.hid (attrs_small ra)
      clear g0 g1 g2 g3 g4 g5 hkeep ra rk htk hb m3 m4
      go_wp2_with fail
      go_region_held3 (fun w' => w'.cell? ⟨b, o + k * 6, none⟩ = some (.int .i64 kd) ∧ w'.cell? ⟨b, o + k * 6 + 1, none⟩ = some (.string nm) ∧ w'.cell? ⟨b, o + k * 6 + 2, none⟩ = some (.string tx) ∧ w'.cell? ⟨b, o + k * 6 + 4, none⟩ = some (.int .i64 par) ∧ w'.cell? ⟨b, o + k * 6 + 5, none⟩ = some (.slice Ak kks.length ck))
        (first | exact ⟨p0, p1, p2, p4, p5⟩ | go_keep)
        ((fail))
      go_wp2_with fail
      obtain ⟨gn, hgn⟩ : ∃ gn, gn = wo.heap.size := ⟨_, rfl⟩
      have hG0 : NBox gn kd nm tx par (.slice Ak kks.length ck) (ats.take 0) (.slice none 0 0) wo ((wo.alloc (.cells #[.int .i64 kd, .string nm, .string tx, .slice none 0 0, .int .i64 par, .slice Ak kks.length ck] 87)).drew) :=
        ⟨heap_new hgn, World.ownsRow_nil _ _ _ _, ((Below.refl _ wo).alloc (Nat.le_refl _) _).drew⟩
      rw [← hgn]
      have HG0 := Lib.hid hG0
      have Hgn := Lib.hid hgn
      clear hG0 p0 p1 p2 p3 p4 p5 hgn
      go_loopw [6] (fun i wi => ∃ (j : Nat) (va : Value), j ≤ ats.length ∧ i = .int .i64 j ∧ Hid (NBox gn kd nm tx par (.slice Ak kks.length ck) (ats.take j) va wo wi)) (fun i _ => ats.length - (intOf i).toNat)
      case atStart => exact ⟨0, _, Nat.zero_le _, rfl, HG0⟩
      case round =>
        obtain ⟨j, va, hj, rfl, hN⟩ := hrel
        have hbw : Below w.heap.size w wr := bthen Hb.out hN.out.2.2
        obtain ⟨p0, p1, p2, p3, p4, p5⟩ := Hkeep.out wr hbw
        by_cases hjl : j < ats.length
        · obtain ⟨hbx, hrow, hbel⟩ := hN.out
          obtain ⟨A3, n3, c3, rfl⟩ := Build.own_form hrow
          have k3 : wr.cell? ⟨gn, 3, none⟩ = some (.slice A3 n3 c3) := (cell_of_row _ _ _ _ _ _ hbx).trans rfl
          have k3f := free_of hbx 3
          have hgl := lt_heap hbx
          have hr2 := (Hra.out.below attrE_keeps (w' := wr) hbw (Nat.le_refl _))
          obtain ⟨ba, oa, rfl, hba, q0, q1, mm1, mm2⟩ := FAttr.attr_at hr2 hjl
          have htj : ats.take (j + 1) = ats.take j ++ [ats[j]] := List.take_succ_eq_append_getElem hjl
          generalize ats[j] = a at *
          obtain ⟨an, av⟩ := a
          simp only at *
          have hrow' : wr.ownsRow (gn + 1) 88 2 (.slice A3 n3 c3) j (atCells (ats.take j)) := by rw [List.length_take, Nat.min_eq_left (by omega)] at hrow; exact hrow
          have hne3 : (Value.slice A3 n3 c3).ownBlock ≠ some gn := fun e => by have := (hrow.lt gn e).1; omega
          have hbl2 : ba < wr.heap.size := World.block_lt_of_cell? wr _ q0
          have hjn : (j : Int) < ats.length := by omega
          have hkn : (k : Int) < f.length := by omega
          have Hrow := Lib.hid hrow'; have Hbx := Lib.hid hbx; have Hbel := Lib.hid hbel; have Htj := Lib.hid htj; have Hne3 := Lib.hid hne3; have Hgl := Lib.hid hgl
          clear hrow hrow' hbx hbel htj hr2 hne3 hbw
          go_wp2_with fail
          go_region_law (refine step_append_lies _ rfl (.tmp 51) (.tmp 60) 85 rfl (gn + 1) 88 i1 _ 2 32 Try.underlying85 hi1 hy0 hy1 hy2 rfl (by decide) (.slice A3 n3 c3) j (atCells (ats.take j)) (by simp [Act.eval, Act.put]) ((Hrow.out.alloc _).drew) ⟨wr.heap.size, 0, none⟩ 1 1 [.string an, .string av] (by simp [Act.eval, Act.put]) rfl (World.news_of_block (cs := #[.string an, .string av]) (t := 88) (fr := (0, 0)) (heap_alloc_new wr _)) (by simp [Value.oneCell']) (by omega) (by simp only [maxLen]; omega) (by omega) (by simp; omega) (wr.heap.size + 1) (by simp) ?_; intro g7 cap7 w7 hown7 hgrow7 hat7 hlt7; have e7 := (hgrow7.block gn (Nat.lt_of_lt_of_le Hgl.out (by simp)) (fun e => Hne3.out e.symm)).trans (heap_old Hbx.out); have k7 : w7.cell? ⟨gn, 3, none⟩ = some (.slice A3 n3 c3) := (cell_of_row _ _ _ _ _ _ e7).trans rfl; have k7f := free_of e7 3; have E7 := Lib.hid e7; have Hown7 := Lib.hid hown7; have Hgrow7 := Lib.hid hgrow7; have Hat7 := Lib.hid hat7; clear e7 hown7 hgrow7 hat7)
          all_goals go_wp2_with fail
          all_goals
            go_roundw
            case rel =>
              refine ⟨j + 1, .slice (some ⟨g7, 0, none⟩) (j + 1) cap7, by omega, by go_num, Lib.hid ?_⟩
              rw [Htj.out]
              refine nbox_step Hgn.out hN.out rfl ?_ Hgrow7.out Hat7.out
              rw [atCells_snoc, List.length_append, List.length_take, Nat.min_eq_left (by omega)]
              exact Hown7.out
            case measure => simp [intOf]; omega
        · obtain rfl : j = ats.length := by omega
          rw [List.take_length] at hN
          obtain ⟨hbx, hrow, hbel⟩ := hN.out
          obtain ⟨A3, n3, c3, rfl⟩ := Build.own_form hrow
          have k0 : wr.cell? ⟨gn, 0, none⟩ = some (.int .i64 kd) := (cell_of_row _ _ _ _ _ _ hbx).trans rfl
          have k1 : wr.cell? ⟨gn, 1, none⟩ = some (.string nm) := (cell_of_row _ _ _ _ _ _ hbx).trans rfl
          have k2 : wr.cell? ⟨gn, 2, none⟩ = some (.string tx) := (cell_of_row _ _ _ _ _ _ hbx).trans rfl
          have k3 : wr.cell? ⟨gn, 3, none⟩ = some (.slice A3 n3 c3) := (cell_of_row _ _ _ _ _ _ hbx).trans rfl
          have k4 : wr.cell? ⟨gn, 4, none⟩ = some (.int .i64 par) := (cell_of_row _ _ _ _ _ _ hbx).trans rfl
          have k5 : wr.cell? ⟨gn, 5, none⟩ = some (.slice Ak kks.length ck) := (cell_of_row _ _ _ _ _ _ hbx).trans rfl
          have hkl : (f.take k).length = k := by rw [List.length_take]; omega
          have hrO : wr.ownsRow w.heap.size 87 6 (.slice AO nO cO) k xsO := by
            have := own_keep HrowO.out (w' := wr) (fun g hg => hbel.block g (HrowO.out.lt g hg).2)
            rwa [hkl] at this
          have hrO2 := own_keep hrO (w' := wr.alloc (.cells #[.int .i64 kd, .string nm, .string tx, .slice A3 n3 c3, .int .i64 par, .slice Ak kks.length ck] 87)) (fun g hg => Below.heap_alloc _ _ _ (hrO.lt g hg).2)
          have HrO2 := Lib.hid hrO2; have HN := Lib.hid hN.out
          have hsz : w.heap.size ≤ wr.heap.size := hbw.size
          clear hbx hrow hbel hrO hrO2 hN
          go_wp2_with (at_builtin; go_loud (refine wpList_append_own_at (wr.alloc (.cells #[.int .i64 kd, .string nm, .string tx, .slice A3 n3 c3, .int .i64 par, .slice Ak kks.length ck] 87)) rfl _ _ 38 rfl w.heap.size 87 i0 _ 6 96 Try.underlying38 hi0 hz0 hz1 hz2 rfl (by decide) (.slice AO nO cO) k xsO rfl HrO2.out ⟨wr.heap.size, 0, none⟩ 1 1 [.int .i64 kd, .string nm, .string tx, .slice A3 n3 c3, .int .i64 par, .slice Ak kks.length ck] rfl rfl (World.news_of_block (cs := #[.int .i64 kd, .string nm, .string tx, .slice A3 n3 c3, .int .i64 par, .slice Ak kks.length ck]) (t := 87) (fr := (0, 0)) (heap_alloc_new wr _)) (by simp [Value.oneCell']) (by simp only [maxLen]; omega) (by omega) (by simp; omega) ?_; intro v8 w8 hown8 hgrow8 hnil8 hat8; have Hown8 := Lib.hid hown8; have Hgrow8 := Lib.hid hgrow8; have Hat8 := Lib.hid hat8; clear hown8 hgrow8 hnil8 hat8))
          go_roundw
          case rel =>
            refine ⟨k + 1, by omega, by go_num, Lib.hid ?_, ?_⟩
            · rw [Htk.out]
              exact out_step hkl HndO.out HrowO.out HN.out Hgn.out (Hrk.out.keep (intE_keeps _) (bthen Hb.out HN.out.2.2) (Nat.le_refl _)) HrO2.out Hown8.out Hgrow8.out Hat8.out (Ha2.out) Hsm.out hsz
            · exact ((bthen Hb.out HN.out.2.2).alloc hsz _).trans ((Off.grown (Y := fun b => w.heap.size ≤ b) Hgrow8.out (fun r hr => (HrowO.out.lt r hr).1)).toBelow (by simp; omega) (fun b hb => hb))
          case measure => simp [intOf]; omega
    · obtain rfl : k = f.length := by omega
      have hfin := hO.out
      rw [List.take_length] at hfin
      have Hfin := Lib.hid hfin; have Hb := Lib.hid hb
      clear hfin hb hlt
      go_wp2_with fail
      go_ret
      exact ⟨_, rfl, Hfin.out, Hb.out⟩
end Go.Proofs.Ytbbompmpecblgaa.Its
end
section
/- apply: what is done; the small doings. -/
namespace Go.Proofs.Ytbbompmpecblgaa.Work
open Go Go.RowKit Go.Proofs.Ytbbompmpecblgaa.Seq Go.Proofs.Ytbbompmpecblgaa.WS Go.Proofs.Ytbbompmpecblgaa.FS Go.Proofs.Ytbbompmpecblgaa.Mem Go.Proofs.Ytbbompmpecblgaa.Rd Go.Proofs.Ytbbompmpecblgaa.Shapes Go.Proofs.Ytbbompmpecblgaa.Word Go.Proofs.Ytbbompmpecblgaa.FFam Go.Proofs.Ytbbompmpecblgaa.OwnF
set_option linter.unusedVariables false
set_option linter.unusedSimpArgs false

/-- What a doing leaves. -/
def DoPost (base wk : Nat) (o : Opn) (f' : Fo) (w : World) (e : Ending) (w' : World) : Prop := e = .returned (.tuple #[]) ∧ ∃ g c, Wk base wk g c o f' w' ∧ Below base w w'
def Do (K : FuncId) (base wk g c : Nat) (o : Opn) (f f' : Fo) : Prop := ∀ w, Wk base wk g c o f w → Calls Try.prog K #[.pointer (some ⟨wk, 0, none⟩)] w (DoPost base wk o f' w)
section
variable {base wk g c : Nat} {o : Opn} {f : Fo}
theorem Wk.base_le {w : World} (h : Wk base wk g c o f w) (h0 : 0 < f.length) : base ≤ g ∧ g < w.heap.size := by
  obtain ⟨g', c', e, hb, hlt, _⟩ := h.own.form h0
  injection e with e
  injection e with e
  injection e with e
  subst e
  exact ⟨hb, hlt⟩
theorem Wk.put {w : World} (h : Wk base wk g c o f w) {i j : Nat} (hi : i < f.length) (hj : j < 6) {u : Value} {n : Nd} (hn : ∀ cs, nodeS (fun b => b ≠ g ∧ b ≠ wk) w cs f[i] → nodeS (fun b => b ≠ g ∧ b ≠ wk) w (cs.set j u) n) :
    Wk base wk g c o (f.set i n) (w.setCell ⟨g, i * 6 + j, none⟩ u) ∧ Below base w (w.setCell ⟨g, i * 6 + j, none⟩ u) := by
  have hb := (h.base_le (Nat.lt_of_le_of_lt (Nat.zero_le _) hi)).1
  have hs := h.ownx.store hi hj hn
  refine ⟨⟨?_, ?_, h.ne, ?_⟩, (Below.refl _ _).setCell hb _⟩
  · rw [List.length_set]
    exact (Below.heap_setCell _ _ _ _ (fun e => h.ne e.symm)).trans h.box
  · rw [List.length_set]
    exact hs
  · rw [List.length_set]
    exact h.big
theorem set_at {f : Fo} {i : Nat} (hi : i < f.length) (n : Nd) : at_ (f.set i n) (i : Int) = n := by
  rw [at_nat (by rw [List.length_set]; exact hi), List.getElem_set_self]
theorem node_grow (w : World) (h : Wk base wk g c o f w) (hi : isNode f o.id = true) : ∀ W, (W = w ∨ W = w.drew) → Calls Try.prog 125 #[.pointer (some ⟨wk, 0, none⟩)] W fun e w' => e = .returned (.pointer (some ⟨g, o.id.toNat * 6, none⟩)) ∧ Below w.heap.size w w' := by
  rintro W (rfl | rfl)
  · exact (node_calls W h hi).mono (fun e w' ⟨h1, n, h2⟩ => ⟨h1, h2 ▸ drewN_below (Below.refl _ _) n⟩)
  · exact (node_calls w.drew (h.below (Below.refl _ _).drew) hi).mono (fun e w' ⟨h1, n, h2⟩ => ⟨h1, h2 ▸ drewN_below (Below.refl _ _).drew n⟩)
theorem Wk.base_size {w : World} (h : Wk base wk g c o f w) (h0 : 0 < f.length) : base ≤ w.heap.size := by have := h.base_le h0; omega
theorem Below.cut {B b : Nat} {w w' : World} (h : Below B w w') (hb : b ≤ B) : Below b w w' := h.mono hb
theorem change_do (hi : isNode f o.id = true) (ht : o.text.size ≤ maxLen) : Do 139 base wk g c o f (f.set o.id.toNat { at_ f o.id with text := o.text }) := by
  intro w h
  obtain ⟨k, hk, hkl⟩ := node_nat hi
  have hcc := fun w' (hw' : Below w.heap.size w w') => cell_grow hw' h.cells.2.2.2.2.2.2
  have hn := node_grow w h hi
  have hput := fun w' (hw' : Below w.heap.size w w') => (h.below hw').put (j := 2) (u := .string o.text) (n := { f[k] with text := o.text }) hkl (by decide) (fun cs hcs => by
    obtain ⟨va, vk, rfl, r1, r2, r3, r4, r5, r6⟩ := hcs
    exact ⟨va, vk, rfl, r1, r2, r3, ht, r5, r6⟩)
  have hfree := fun w' (hw' : Below w.heap.size w w') => ((h.below hw').free (by omega)).1 (k * 6 + 2)
  obtain ⟨_, _, _, _, k2, _, _, _, _, _⟩ := h.node hi
  have hk2 := fun w' (hw' : Below w.heap.size w w') => cell_grow hw' k2
  have hbs := h.base_size (by omega)
  have hne := h.ne
  rw [hk] at hn hk2 ⊢
  rw [Int.toNat_natCast] at hk2 hn ⊢
  have e : at_ f (k : Int) = f[k] := at_nat hkl
  rw [e]
  have c6 := hcc w (Below.refl _ _)
  have kf := hfree w (Below.refl _ _)
  have k2 := hk2 w (Below.refl _ _)
  rw [e] at k2 hk2
  have Hn := Lib.hid hn; have Hput := Lib.hid hput; have Hcc := Lib.hid hcc; have Hfree := Lib.hid hfree; have Hk2 := Lib.hid hk2
  clear hn hput h hi e hcc hfree hk2
  go_enter Try.func139, Try.ntmps139
  go_region_held3 (fun w' => w'.cell? ⟨wk, 6, none⟩ = some (.string o.text))
    (first | exact c6 | exact d6 | (exact (OwnF.cell_same (Below.heap_setCell _ _ _ _ (fun e => hne e.symm)) _).trans (by assumption)) | go_keep)
    (first | (go_at_call 125; (first | (with_reducible refine (Hn.out _ (.inl rfl)).mono ?_) | (with_reducible refine (Hn.out _ (.inr rfl)).mono ?_)); rintro e w5 ⟨rfl, hb5⟩; have d6 := Hcc.out _ hb5; have d2 := Hk2.out _ hb5; have df := Hfree.out _ hb5; have Hb5 := Lib.hid hb5; clear hb5))
  refine bodyPost_ret (results_none rfl _ _ _) rfl ?_
  obtain ⟨p1, p2⟩ := Hput.out _ Hb5.out
  exact ⟨rfl, _, _, p1, (Hb5.out.mono hbs).trans p2⟩
theorem fresh_node {w : World} {S : Nat → Prop} {k : Int} (hk : (Lit.int .i64 k).wf = true) (hn : o.name.size ≤ maxLen) (ht : o.text.size ≤ maxLen) :
    nodeS S w [.int .i64 k, .string o.name, .string o.text, .slice none 0 0, .int .i64 (-1), .slice none 0 0] { kind := k, name := o.name, text := o.text, parent := -1 } :=
  ⟨_, _, rfl, RdS.nil, RdS.nil, hn, ht, hk, rfl⟩
set_option maxRecDepth 100000 in
set_option maxHeartbeats 4000000 in
theorem fresh_calls (k : Int) (hk : (Lit.int .i64 k).wf = true) (h0 : 0 < f.length) (hl60 : f.length ≤ 1000) (hn : o.name.size ≤ maxLen) (ht : o.text.size ≤ maxLen) (w : World) (h : Wk base wk g c o f w) (hbw : base ≤ wk) :
    Calls Try.prog 115 #[.pointer (some ⟨wk, 0, none⟩), .int .i64 k] w (DoPost base wk o (f ++ [{ kind := k, name := o.name, text := o.text, parent := -1 }]) w) := by
  obtain ⟨c0, c1, c2, c3, c4, c5, c6⟩ := h.cells
  have hl := h.big
  have hbs := h.base_size h0
  obtain ⟨xs, how, hnd⟩ := h.ownx
  obtain ⟨hgf, hwf, hgl, hwl⟩ := h.free h0
  have hgb := (h.base_le h0).1
  have hwf0 := hwf 0
  obtain ⟨i0, hi0, hz0, hz1, hz2⟩ := info_parts LKinds.info_node
  have Hnd := Lib.hid hnd; have How := Lib.hid how; have H := Lib.hid h
  have hne := h.ne
  have HK := Lib.hid hk; have HN := Lib.hid hn; have HT := Lib.hid ht
  clear h how hnd hgf hwf hk hn ht
  go_enter Try.func115, Try.ntmps115
  go_region_law (refine step_append_lies _ rfl (.tmp 8) (.tmp 21) 33 rfl base 45 i0 _ 6 96 Try.underlying33 hi0 hz0 hz1 hz2 rfl (by decide) (.slice (some ⟨g, 0, none⟩) f.length c) f.length xs (by simp [Act.eval, Act.put]) ((How.out.alloc _).drew) ⟨w.heap.size, 0, none⟩ 1 1 [.int .i64 k, .string o.name, .string o.text, .slice none 0 0, .int .i64 (-1), .slice none 0 0] (by simp [Act.eval, Act.put]) rfl (World.news_of_block (cs := #[.int .i64 k, .string o.name, .string o.text, .slice none 0 0, .int .i64 (-1), .slice none 0 0]) (t := 45) (fr := (0, 0)) (heap_alloc_new w _)) (by simp [Value.oneCell']) (by omega) (by simp only [maxLen]; omega) (by omega) (by simp; omega) (w.heap.size + 1) (by simp) ?_; intro g7 cap7 w7 hown7 hgrow7 hat7 hlt7; have e7 := (hgrow7.block wk (by simp; omega) (fun e => hne (by injection e with e; exact e.symm))).trans (heap_old H.out.box); have k7 : w7.cell? ⟨wk, 0, none⟩ = some (.slice (some ⟨g, 0, none⟩) f.length c) := (cell_of_row _ _ _ _ _ _ e7).trans rfl; have k7f := free_of e7 0; have E7 := Lib.hid e7; have Hown7 := Lib.hid hown7; have Hgrow7 := Lib.hid hgrow7; have Hat7 := Lib.hid hat7; clear e7 hown7 hgrow7 hat7)
  all_goals
    refine bodyPost_ret (results_none rfl _ _ _) rfl ?_
    have hO := OwnX.more (X := fun b => b ≠ wk) (f := f) (g := [{ kind := k, name := o.name, text := o.text, parent := -1 }]) ((How.out.alloc (.cells #[.int .i64 k, .string o.name, .string o.text, .slice none 0 0, .int .i64 (-1), .slice none 0 0] 45 (0, 0))).drew)
      (fun i hi => (Hnd.out i hi).keep (fun b _ hb => Below.heap_alloc _ _ _ hb) (by simp) (fun b hb _ => hb)) rfl (fun i hi => by
        obtain rfl : i = 0 := by simp at hi; omega
        exact fresh_node HK.out HN.out HT.out) Hown7.out Hgrow7.out (by
          rcases Hat7.out with e | e
          · exact .inl e.symm
          · exact .inr (by rw [e]; simp [Value.ownBlock]))
    have hg7 : g7 ≠ wk := by
      rcases Hat7.out with e | e
      · intro e2; apply hne; simp [Value.ownBlock] at e; omega
      · omega
    have hB : Below base w w7 := by
      have b1 := ((Below.refl base w).alloc hbs (.cells #[.int .i64 k, .string o.name, .string o.text, .slice none 0 0, .int .i64 (-1), .slice none 0 0] 45 (0, 0))).drew
      exact b1.trans ((Off.grown (Y := fun b => base ≤ b) Hgrow7.out (fun r hr => by simp only [Value.ownBlock] at hr; injection hr with hr; omega)).toBelow (by simp; omega) (fun b hb => hb))
    refine ⟨rfl, g7, cap7, ⟨?_, ?_, hg7, ?_⟩, hB.setCell hbw _⟩
    · rw [List.length_append]
      exact (Repl.setCell_row E7.out).trans rfl
    · rw [List.length_append]
      exact hO.keep (fun b hb hx => Below.heap_setCell _ _ _ _ (by
        rcases hx with h | h
        · exact h
        · intro e; apply hg7; simp only [Value.ownBlock] at h; injection h with h; exact h.trans e)) (by simp [World.setCell])
    · rw [List.length_append]
      obtain ⟨_, _, e, _, _, _, h1, h2⟩ := hO.own.form (by simp)
      injection e with e1 e2 e3
      subst e3
      rw [List.length_append] at h1
      exact ⟨h1, by simp only [maxLen] at h2; omega⟩
theorem fresh1_do (h0 : 0 < f.length) (hl60 : f.length ≤ 1000) (hn : o.name.size ≤ maxLen) (ht : o.text.size ≤ maxLen) (hbw : base ≤ wk) (hk : o.kind = 1) : Do 114 base wk g c o f (freshF f o) := by
  intro w h
  have hf := fresh_calls 1 rfl h0 hl60 hn ht w h hbw
  unfold freshF
  rw [hk]
  have Hf := Lib.hid hf
  clear hf h
  go_enter Try.func114, Try.ntmps114
  go_wp2_with (go_at_call 115; (with_reducible refine (Hf.out).mono ?_); rintro e w5 ⟨rfl, hp⟩)
  first | go_end0 | (simp only [Exit.inBlock, Exit.then]; refine bodyPost_ret (results_none rfl _ _ _) rfl ?_) | refine bodyPost_ret (results_none rfl _ _ _) rfl ?_
  exact ⟨rfl, hp⟩
theorem fresh2_do (h0 : 0 < f.length) (hl60 : f.length ≤ 1000) (hn : o.name.size ≤ maxLen) (ht : o.text.size ≤ maxLen) (hbw : base ≤ wk) (hk : o.kind = 2) : Do 117 base wk g c o f (freshF f o) := by
  intro w h
  have hf := fresh_calls 2 rfl h0 hl60 hn ht w h hbw
  unfold freshF
  rw [hk]
  have Hf := Lib.hid hf
  clear hf h
  go_enter Try.func117, Try.ntmps117
  go_wp2_with (go_at_call 115; (with_reducible refine (Hf.out).mono ?_); rintro e w5 ⟨rfl, hp⟩)
  first | go_end0 | (simp only [Exit.inBlock, Exit.then]; refine bodyPost_ret (results_none rfl _ _ _) rfl ?_) | refine bodyPost_ret (results_none rfl _ _ _) rfl ?_
  exact ⟨rfl, hp⟩
theorem fresh3_do (h0 : 0 < f.length) (hl60 : f.length ≤ 1000) (hn : o.name.size ≤ maxLen) (ht : o.text.size ≤ maxLen) (hbw : base ≤ wk) (hk : o.kind = 3) : Do 118 base wk g c o f (freshF f o) := by
  intro w h
  have hf := fresh_calls 3 rfl h0 hl60 hn ht w h hbw
  unfold freshF
  rw [hk]
  have Hf := Lib.hid hf
  clear hf h
  go_enter Try.func118, Try.ntmps118
  go_wp2_with (go_at_call 115; (with_reducible refine (Hf.out).mono ?_); rintro e w5 ⟨rfl, hp⟩)
  first | go_end0 | (simp only [Exit.inBlock, Exit.then]; refine bodyPost_ret (results_none rfl _ _ _) rfl ?_) | refine bodyPost_ret (results_none rfl _ _ _) rfl ?_
  exact ⟨rfl, hp⟩
end
end Go.Proofs.Ytbbompmpecblgaa.Work
end
section
/- The kit's library contracts, laid at this program in plain words (wip/shelf.py). -/
namespace Go.Proofs
open Go.Shelf
def Try.laysNm215_ren : Go.Shelf.Ren := ⟨fun | 15 => 80 | n => n, fun | 22 => 40 | 3 => 3 | 4 => 4 | n => n, fun | n => n⟩
theorem Try.laysNm215 : Go.Proofs.Lays2.n15 Try.prog Try.laysNm215_ren := {
  mixed := by kernel_rfl
  f15 := Try.func80.trans (congrArg some (by kernel_rfl))
  t3 := Try.underlying3
  a3 := Try.isAgg3
  z3 := Try.sizeOf3
  v3 := Try.zeroValue3
  t4 := Try.underlying4
  a4 := Try.isAgg4
  z4 := Try.sizeOf4
  v4 := Try.zeroValue4
  t22 := Try.underlying40
  a22 := Try.isAgg40
  z22 := Try.sizeOf40
  v22 := Try.zeroValue40
  i3 := by kernel_rfl }
open Go.RowKit Go.Lib in
theorem Try.slices_Clone_int (b off n c : Nat) (zs : List Int) (w : World) (hz : n ≤ zs.length) (hbig : n * 8 ≤ 140737488355328) (hc : ∀ j, j < zs.length → w.cell? ⟨b, off + j, none⟩ = some (.int .i64 (zs.getD j 0))) :
    Calls Try.prog 80 #[.slice (some ⟨b, off, none⟩) n c] w fun e w' => ∃ v', e = .returned v' ∧ w'.ownsRow w.heap.size 3 1 v' n ((zs.take n).map (Value.int .i64)) ∧ v' ≠ .slice none 0 0 ∧ Below w.heap.size w w' := Any.slices_Clone_int Try.laysNm215 b off n c zs w hz hbig hc
open Go.RowKit Go.Lib in
theorem Try.slices_Clone_int_nil (n c : Nat) (w : World) :
    Calls Try.prog 80 #[.slice none n c] w fun e w' => e = .returned (.slice none 0 0) ∧ w' = w := Any.slices_Clone_int_nil Try.laysNm215 n c w
open Go.RowKit Go.Lib in
theorem Try.slices_Clone_int_zero (a : Addr) (c : Nat) (w : World) :
    Calls Try.prog 80 #[.slice (some a) 0 c] w fun e w' => ∃ v', e = .returned v' ∧ w'.ownsRow w.heap.size 3 1 v' 0 [] ∧ v' ≠ .slice none 0 0 ∧ Below w.heap.size w w' := Any.slices_Clone_int_zero Try.laysNm215 a c w
end Go.Proofs
end
section
/- The kit's library contracts, laid at this program in plain words (wip/shelfg.py). -/
namespace Go.Proofs
open Go.Shelf
def Try.laysDf_ren : Go.Shelf.Ren := ⟨fun | 10 => 152 | 6 => 164 | n => n, fun | 22 => 40 | 23 => 3 | 25 => 117 | 3 => 3 | 4 => 4 | 0 => 0 | n => n, fun | n => n⟩
theorem Try.laysDf : Go.Proofs.SlLaysH.n10 Try.prog Try.laysDf_ren := {
  mixed := by kernel_rfl
  f6 := ⟨Try.f164.name, by decide, Try.func164.trans (congrArg some (by kernel_rfl))⟩
  f10 := ⟨Try.f152.name, by decide, Try.func152.trans (congrArg some (by kernel_rfl))⟩
  t0 := Try.underlying0
  a0 := Try.isAgg0
  z0 := Try.sizeOf0
  v0 := Try.zeroValue0
  t3 := Try.underlying3
  a3 := Try.isAgg3
  z3 := Try.sizeOf3
  v3 := Try.zeroValue3
  t4 := Try.underlying4
  a4 := Try.isAgg4
  z4 := Try.sizeOf4
  v4 := Try.zeroValue4
  t22 := Try.underlying40
  a22 := Try.isAgg40
  z22 := Try.sizeOf40
  v22 := Try.zeroValue40
  a23 := Try.isAgg3
  z23 := Try.sizeOf3
  t25 := Try.underlying117
  a25 := Try.isAgg117
  z25 := Try.sizeOf117
  v25 := Try.zeroValue117 }
def Try.laysClA_ren : Go.Shelf.Ren := ⟨fun | 41 => 136 | n => n, fun | 22 => 43 | 23 => 80 | 4 => 4 | n => n, fun | n => n⟩
theorem Try.laysClA : Go.Proofs.SlLaysE0.n41 Try.prog Try.laysClA_ren := {
  mixed := by kernel_rfl
  f41 := ⟨Try.f136.name, by decide, Try.func136.trans (congrArg some (by kernel_rfl))⟩
  t4 := Try.underlying4
  a4 := Try.isAgg4
  z4 := Try.sizeOf4
  v4 := Try.zeroValue4
  t22 := Try.underlying43
  a22 := Try.isAgg43
  z22 := Try.sizeOf43
  v22 := Try.zeroValue43 }
def Try.laysClF_ren : Go.Shelf.Ren := ⟨fun | 41 => 93 | n => n, fun | 22 => 33 | 23 => 45 | 4 => 4 | n => n, fun | n => n⟩
theorem Try.laysClF : Go.Proofs.SlLaysE0.n41 Try.prog Try.laysClF_ren := {
  mixed := by kernel_rfl
  f41 := ⟨Try.f93.name, by decide, Try.func93.trans (congrArg some (by kernel_rfl))⟩
  t4 := Try.underlying4
  a4 := Try.isAgg4
  z4 := Try.sizeOf4
  v4 := Try.zeroValue4
  t22 := Try.underlying33
  a22 := Try.isAgg33
  z22 := Try.sizeOf33
  v22 := Try.zeroValue33 }
end Go.Proofs
end
section
/- apply.take: a node is taken out. -/
namespace Go.Proofs.Ytbbompmpecblgaa.Work
open Go Go.RowKit Go.Proofs.Ytbbompmpecblgaa.Seq Go.Proofs.Ytbbompmpecblgaa.WS Go.Proofs.Ytbbompmpecblgaa.FS Go.Proofs.Ytbbompmpecblgaa.Mem Go.Proofs.Ytbbompmpecblgaa.Rd Go.Proofs.Ytbbompmpecblgaa.Shapes Go.Proofs.Ytbbompmpecblgaa.Word Go.Proofs.Ytbbompmpecblgaa.FFam Go.Proofs.Ytbbompmpecblgaa.OwnF
set_option linter.unusedVariables false
set_option linter.unusedSimpArgs false

theorem take1_calls (w : World) (bx wk : Nat) (x k : Int) (hb : w.cell? ⟨bx, 0, none⟩ = some (.pointer (some ⟨wk, 0, none⟩))) (h2 : w.cell? ⟨wk, 2, none⟩ = some (.int .i64 x)) :
    Calls Try.prog 153 #[.int .i64 k, .pointer (some ⟨bx, 0, none⟩)] w fun e w' => e = .returned (.bool (k == x)) ∧ ∃ q, w' = w.drewN q := by
  go_enter Try.func153, Try.ntmps153
  go_wp2_with fail
  go_ret
  exact ⟨rfl, 0, rfl⟩
theorem putRow_below {enc : Int → Value} {w : World} {B g off q : Nat} {d : Array Int} (hB : B ≤ g) (hs : B ≤ w.heap.size) : Below B w (Sort.putRow enc (Sort.ahead w q) g off d) := by
  refine ⟨rfl, rfl, rfl, by simp [Sort.putRow, Sort.mapBlock, Sort.ahead]; try omega, fun j hj => ?_⟩
  simp only [Sort.putRow, Sort.mapBlock, Sort.ahead]
  rw [Array.getElem?_modify, if_neg (by omega)]
theorem deleteFunc_calls (w : World) (B bx wk : Nat) (x : Int) (v : Value) (l : List Int) (h : w.ownsRow B 3 1 v l.length (l.map (Value.int .i64))) (h0 : 0 < l.length) (hl : l.length ≤ 1000) (hw : ∀ y ∈ l, (Lit.int .i64 y).wf = true) (hbB : bx < B) (hwB : wk < B)
    (hb : w.cell? ⟨bx, 0, none⟩ = some (.pointer (some ⟨wk, 0, none⟩))) (h2 : w.cell? ⟨wk, 2, none⟩ = some (.int .i64 x)) (hBs : B ≤ w.heap.size) :
    Calls Try.prog 152 #[v, .func (.func 153) #[] #[.pointer (some ⟨bx, 0, none⟩)]] w fun e w' => ∃ v', e = .returned v' ∧ RdS intS 1 (fun b => B ≤ b) w' v' (l.filter (· != x)) ∧ Below B w w' := by
  have hlt := h.lt
  have hcells := fun (g : Nat) (e : v.ownBlock = some g) => h.cells (g := g) e
  rcases h.2 with ⟨_, hn⟩ | ⟨g, cap, cur, rfl, hgb, hgh, hgc, hgm, hcs, _⟩
  · omega
  have hg := (hlt g rfl).1
  have hgs := (hlt g rfl).2
  have hH : Sort.Holds (Value.int .i64) w g 0 l.toArray := fun j hj => by
    have hj' : j < l.length := by simpa using hj
    refine ⟨?_, free_of hgh _⟩
    have := hcells g rfl j (.int .i64 l[j]) (by simp [hj'])
    rw [Addr.add_lit] at this
    rw [this]
    simp [hj']
  have eg : ∀ args w, (callFunc 153 args).run Try.prog w = .ok (.enter 153 args) w := enters_of Try.func153 (by kernel_rfl) rfl
  have hp : PredAt Try.prog 153 #[.pointer (some ⟨bx, 0, none⟩)] (Value.int .i64) (fun k => k == x) w := fun W k hW => take1_calls W bx wk x k (cell_grow hW hb) (cell_grow hW h2)
  have hpo : PredOver Try.prog 153 #[.pointer (some ⟨bx, 0, none⟩)] (Value.int .i64) (fun k => k == x) g 0 l.toArray.size w := fun n os dk k _ => by
    have hW : ∀ (a : Nat) (o : Nat) (u : Value), a < B → w.cell? ⟨a, o, none⟩ = some u → (sortWorld (Value.int .i64) w g 0 n dk os).cell? ⟨a, o, none⟩ = some u := fun a o u ha hu => by
      unfold sortWorld
      rw [Sort.cell?_grow _ _ _ (by show a < (Sort.putRow _ _ _ _ _).heap.size; rw [Sort.size_putRow]; show a < w.heap.size; omega), Sort.cell?_putRow_other _ _ g 0 _ _ (Or.inl (by show a ≠ g; omega))]
      exact hu
    exact take1_calls _ bx wk x k (hW bx 0 _ hbB hb) (hW wk 2 _ hwB h2)
  have hcon := AnyE.slices_DeleteFunc Try.laysDf (Value.int .i64) (fun _ => rfl) (fun k => k == x) 153 #[.pointer (some ⟨bx, 0, none⟩)] eg 0 Try.zeroValue3 g 0 cap l.toArray w hp hpo hH (by simp; omega) (by simpa using hgc)
  have he : (l.toArray.toList.filter fun k => !(k == x)) = l.filter (· != x) := rfl
  rw [he] at hcon
  have hsz : l.toArray.size = l.length := by simp
  rw [hsz] at hcon
  refine hcon.mono ?_
  rintro e w' ⟨rfl, q, rfl⟩
  have hfl : (l.filter (· != x)).length ≤ l.length := List.length_filter_le _ _
  refine ⟨_, rfl, ⟨_, _, rfl, by omega, hgm, fun h1 => ⟨g, 0, rfl, hg, ?_, fun i hi => ⟨[.int .i64 (l.filter (· != x))[i]], rfl, fun j u hj => ?_, rfl, hw _ (List.mem_filter.1 (List.getElem_mem hi)).1⟩⟩⟩, putRow_below hg hBs⟩
  · rw [Sort.size_putRow]; exact hgs
  · have hj0 : j = 0 := by have := (List.getElem?_eq_some_iff.1 hj).1; simp at this; omega
    subst hj0
    simp at hj
    subst hj
    have hHa : Sort.Holds (Value.int .i64) (Sort.ahead w q) g 0 l.toArray := hH
    have := Sort.cell?_putRow (Value.int .i64) (Sort.ahead w q) g 0 l.toArray ((l.filter (· != x)) ++ List.replicate (l.length - (l.filter (· != x)).length) 0).toArray hHa (by simp; omega) i (by simp; omega)
    rw [show 0 + i * 1 + 0 = 0 + i by omega, this]
    simp only [List.getElem!_toArray, List.getElem!_eq_getElem?_getD]
    rw [List.getElem?_append_left hi, List.getElem?_eq_getElem hi]
    rfl
theorem ints_cells {B : Nat} {w : World} {b : Nat} {l : List Int} (hc : ∀ j (hj : j < l.length), w.cell? ⟨b, B + j, none⟩ = some (.int .i64 l[j])) : ∀ j, j < l.length → w.cell? ⟨b, B + j, none⟩ = some (.int .i64 (l.getD j 0)) := fun j hj => by
  rw [hc j hj, List.getD_eq_getElem?_getD, List.getElem?_eq_getElem hj]
  rfl
theorem cloneI_calls (w : World) (v : Value) (l : List Int) (h : RdL (intE .i64) 1 w.heap.size w v l) (hl : l.length ≤ 1000) :
    Calls Try.prog 80 #[v] w fun e w' => ∃ v', e = .returned v' ∧ w'.ownsRow w.heap.size 3 1 v' l.length (l.map (Value.int .i64)) ∧ Below w.heap.size w w' := by
  obtain ⟨A, c, rfl, hc, hm, hr⟩ := h
  cases A with
  | none =>
    have hl0 : l = [] := by
      cases l with
      | nil => rfl
      | cons y r => obtain ⟨b, o, e, _⟩ := hr (by simp); cases e
    subst hl0
    refine (Try.slices_Clone_int_nil _ _ w).mono ?_
    rintro e w' ⟨rfl, rfl⟩
    exact ⟨_, rfl, World.ownsRow_nil _ _ _ _, Below.refl _ _⟩
  | some a =>
    cases l with
    | nil =>
      refine (Try.slices_Clone_int_zero a c w).mono ?_
      rintro e w' ⟨v', rfl, h1, _, h2⟩
      exact ⟨v', rfl, h1, h2⟩
    | cons y r =>
      obtain ⟨b, o, e, hb, hcell⟩ := hr (by simp)
      injection e with e
      subst e
      refine (Try.slices_Clone_int b o (y :: r).length c (y :: r) w (Nat.le_refl _) (by omega) (ints_cells (fun j hj => ?_))).mono ?_
      · obtain ⟨cs, h1, h2, h3, _⟩ := hcell j hj
        have := h2 0 (.int .i64 (y :: r)[j]) (by rw [h3]; rfl)
        rwa [Nat.mul_one, Nat.add_zero] at this
      · rintro e w' ⟨v', rfl, h1, _, h2⟩
        rw [List.take_length] at h1
        exact ⟨v', rfl, h1, h2⟩
end Go.Proofs.Ytbbompmpecblgaa.Work
end
