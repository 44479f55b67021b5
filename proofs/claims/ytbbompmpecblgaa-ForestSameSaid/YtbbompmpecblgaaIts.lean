/- treillagelaw05.its. -/
import Derived.Test.YtbbompmpecblgaaLKinds
import Derived.Deep.AppendLies
import Derived.Deep.RegionLaw
namespace Go.Proofs.Ytbbompmpecblgaa.Its
open Go Go.RowKit Go.Proofs.Ytbbompmpecblgaa.Seq Go.Proofs.Ytbbompmpecblgaa.WS Go.Proofs.Ytbbompmpecblgaa.FS Go.Proofs.Ytbbompmpecblgaa.Mem Go.Proofs.Ytbbompmpecblgaa.Rd Go.Proofs.Ytbbompmpecblgaa.Shapes Go.Proofs.Ytbbompmpecblgaa.Word Go.Proofs.Ytbbompmpecblgaa.FFam Go.Proofs.Ytbbompmpecblgaa.OwnF
set_option linter.unusedVariables false
set_option linter.unusedSimpArgs false

def atCells (l : List Av) : List Value := l.flatMap (fun a => [.string a.name, .string a.value])
theorem atCells_snoc (l : List Av) (a : Av) : atCells (l ++ [a]) = atCells l ++ [.string a.name, .string a.value] := by unfold atCells; rw [List.flatMap_append]; simp
theorem atCells_length : ∀ l : List Av, (atCells l).length = l.length * 2
  | [] => rfl
  | a :: l => by have := atCells_length l; unfold atCells at this ⊢; rw [List.flatMap_cons, List.length_append, this]; simp; omega
theorem atCells_at : ∀ {l : List Av} {i : Nat} (h : i < l.length), ((atCells l).drop (i * 2)).take 2 = [.string l[i].name, .string l[i].value]
  | a :: l, 0, h => rfl
  | a :: l, i + 1, h => by
    have := atCells_at (l := l) (i := i) (by simpa using h)
    unfold atCells at this ⊢
    rw [List.flatMap_cons, show (i + 1) * 2 = i * 2 + 1 + 1 by omega]
    exact this
theorem rows_attrs {w : World} {base : Nat} {e : TypeId} {v : Value} {l : List Av} {S : Nat → Prop} (h : w.ownsRow base e 2 v l.length (atCells l)) (hS : ∀ g, v.ownBlock = some g → S g) (hm : ∀ a ∈ l, a.name.size ≤ maxLen ∧ a.value.size ≤ maxLen) : RdS attrS 2 S w v l :=
  RdS.of_own h rfl hS (fun i hi => ⟨atCells_at hi, hm _ (List.getElem_mem _)⟩)
theorem info_rnode : (Try.prog.info? 87).map (fun i => (i.zero, i.size, i.bytes)) = some (some (.agg #[.int .i64 0, .string ⟨#[]⟩, .string ⟨#[]⟩, .slice none 0 0, .int .i64 0, .slice none 0 0]), 6, 96) := by kernel_rfl
theorem info_rattr : (Try.prog.info? 88).map (fun i => (i.zero, i.size, i.bytes)) = some (some (.agg #[.string ⟨#[]⟩, .string ⟨#[]⟩]), 2, 32) := by kernel_rfl
/-- The node in the making. -/
def NBox (gn : Nat) (kd : Int) (nm tx : ByteArray) (par : Int) (vk : Value) (l : List Av) (va : Value) (wo wi : World) : Prop :=
  wi.heap[gn]? = some (.cells #[.int .i64 kd, .string nm, .string tx, va, .int .i64 par, vk] 87 (0, 0)) ∧ wi.ownsRow (gn + 1) 88 2 va l.length (atCells l) ∧ Below wo.heap.size wo wi
theorem nbox_step {gn : Nat} {kd : Int} {nm tx : ByteArray} {par : Int} {vk : Value} {l : List Av} {a : Av} {va : Value} {wo wr w7 : World} {g7 n7 cap7 : Nat} {wm : World} (hgn : gn = wo.heap.size)
    (h : NBox gn kd nm tx par vk l va wo wr) (hwm : wm = (wr.alloc (.cells #[.string a.name, .string a.value] 88)).drew)
    (hown : w7.ownsRow (gn + 1) 88 2 (.slice (some ⟨g7, 0, none⟩) n7 cap7) (l ++ [a]).length (atCells (l ++ [a]))) (hgr : wm.grownBy w7 va.ownBlock) (hat : va.ownBlock = some g7 ∨ g7 = wr.heap.size + 1) :
    NBox gn kd nm tx par vk (l ++ [a]) (.slice (some ⟨g7, 0, none⟩) n7 cap7) wo (w7.setCell ⟨gn, 3, none⟩ (.slice (some ⟨g7, 0, none⟩) n7 cap7)) := by
  obtain ⟨h1, h2, h3⟩ := h
  subst hwm
  have hlt := lt_heap h1
  have hne : va.ownBlock ≠ some gn := fun e => by have := (h2.lt gn e).1; omega
  have e7 := (hgr.block gn (Nat.lt_of_lt_of_le hlt (by simp)) (fun e => hne e.symm)).trans (heap_old h1)
  have hg7 : g7 ≠ gn := by
    rcases hat with e | e
    · intro e2; exact hne (by rw [e, e2])
    · omega
  refine ⟨(Repl.setCell_row e7).trans rfl, own_keep hown (fun g hg => heap_other (by injection hg with hg; have : g7 = g := hg; omega)), ?_⟩
  have b1 : Below wo.heap.size wo (wr.alloc (.cells #[.string a.name, .string a.value] 88)).drew := (h3.alloc h3.size _).drew
  have b2 := b1.trans ((Off.grown (Y := fun b => wo.heap.size ≤ b) hgr (fun r hr => by have := (h2.lt r hr).1; omega)).toBelow b1.size (fun b hb => hb))
  exact b2.setCell (by simp; omega) _
  where heap_other {w : World} {b g i : Nat} {v : Value} (h : g ≠ b) : (w.setCell ⟨b, i, none⟩ v).heap[g]? = w.heap[g]? := Below.heap_setCell _ _ _ _ h
theorem attrs_small {B : Nat} {w : World} {v : Value} {l : List Av} (h : RdL attrE 2 B w v l) : ∀ a ∈ l, a.name.size ≤ maxLen ∧ a.value.size ≤ maxLen := by
  intro a ha
  obtain ⟨i, hi, rfl⟩ := List.mem_iff_getElem.1 ha
  obtain ⟨A, c, rfl, _, _, h'⟩ := h.form
  obtain ⟨b, o, cs, _, _, _, _, _, h1, h2⟩ := h'.at_ hi
  exact ⟨h1, h2⟩
theorem out_step {w wo wr w8 : World} {fs : Fo} {k gn : Nat} {kd : Int} {nm tx : ByteArray} {par : Int} {ats : List Av} {kks : List Int} {Ak A3 AO : Option Addr} {ck n3 c3 nO cO : Nat} {xsO : List Value} {v8 : Value} (hkl : fs.length = k)
    (hnd : ∀ i (hi : i < fs.length), nodeS (fun b => (Value.slice AO nO cO).ownBlock ≠ some b) wo ((xsO.drop (i * 6)).take 6) fs[i]) (hro : wo.ownsRow w.heap.size 87 6 (.slice AO nO cO) fs.length xsO)
    (hN : NBox gn kd nm tx par (.slice Ak kks.length ck) ats (.slice A3 n3 c3) wo wr) (hgn : gn = wo.heap.size) (hrk : RdL (intE .i64) 1 w.heap.size wr (.slice Ak kks.length ck) kks)
    (hrO2 : (wr.alloc (.cells #[.int .i64 kd, .string nm, .string tx, .slice A3 n3 c3, .int .i64 par, .slice Ak kks.length ck] 87)).ownsRow w.heap.size 87 6 (.slice AO nO cO) k xsO)
    (hown : w8.ownsRow w.heap.size 87 6 v8 (k + 1) (xsO ++ [.int .i64 kd, .string nm, .string tx, .slice A3 n3 c3, .int .i64 par, .slice Ak kks.length ck]))
    (hgr : (wr.alloc (.cells #[.int .i64 kd, .string nm, .string tx, .slice A3 n3 c3, .int .i64 par, .slice Ak kks.length ck] 87)).grownBy w8 (Value.slice AO nO cO).ownBlock)
    (hat : v8.ownBlock = (Value.slice AO nO cO).ownBlock ∨ v8.ownBlock = some (wr.alloc (.cells #[.int .i64 kd, .string nm, .string tx, .slice A3 n3 c3, .int .i64 par, .slice Ak kks.length ck] 87)).heap.size)
    (ha : ∀ a ∈ ats, a.name.size ≤ maxLen ∧ a.value.size ≤ maxLen) (hsm : nm.size ≤ maxLen ∧ tx.size ≤ maxLen ∧ (Lit.int .i64 kd).wf = true ∧ (Lit.int .i64 par).wf = true) (hws : w.heap.size ≤ wr.heap.size) :
    OwnF 87 w.heap.size w8 v8 (fs ++ [⟨kd, nm, tx, ats, par, kks⟩]) := by
  obtain ⟨hbx, hrow, hbel⟩ := hN
  have hal : ∀ b, b < wr.heap.size → (wr.alloc (.cells #[.int .i64 kd, .string nm, .string tx, .slice A3 n3 c3, .int .i64 par, .slice Ak kks.length ck] 87)).heap[b]? = wr.heap[b]? := fun b hb => Below.heap_alloc _ _ _ hb
  subst hkl
  refine OwnF.more (w := wr.alloc (.cells #[.int .i64 kd, .string nm, .string tx, .slice A3 n3 c3, .int .i64 par, .slice Ak kks.length ck] 87)) (f := fs) (g := [⟨kd, nm, tx, ats, par, kks⟩]) hrO2 (fun i hi => (hnd i hi).keep (fun b _ hb => (hal b (Nat.lt_of_lt_of_le hb hbel.size)).trans (hbel.block b hb)) (by have := hbel.size; simp; omega) (fun _ x _ => x)) rfl (fun i hi => ?_) hown hgr hat
  obtain rfl : i = 0 := by simp at hi; omega
  refine ⟨.slice A3 n3 c3, .slice Ak kks.length ck, rfl, ?_, ?_, hsm⟩
  · refine (rows_attrs (S := fun b => (Value.slice AO nO cO).ownBlock ≠ some b) hrow (fun g hg e => ?_) ha).keep (fun b _ hb => hal b hb) (by simp) (fun _ x _ => x)
    have := (hrow.lt g hg).1
    have := (hro.lt g e).2
    omega
  · exact (RdS.of_rd (E := intS) hrk hws).keep (fun b hb _ => hal b (by omega)) (by simp) (fun b hb _ e => by have := (hro.lt b e).1; omega)
set_option maxRecDepth 100000 in
set_option maxHeartbeats 8000000 in
theorem its_calls (w : World) (v : Value) (f : Fo) (h : RdF w.heap.size w v f) (hl70 : f.length ≤ 1000) (ha12 : ∀ n ∈ f, n.attrs.length ≤ 1000) :
    Calls Try.prog 31 #[v] w fun e w' => ∃ u, e = .returned u ∧ OwnF 87 w.heap.size w' u f ∧ Below w.heap.size w w' := by
  obtain ⟨A0, c0, rfl, hl0, hc0, h'⟩ := h.form
  simp only [maxLen] at hc0
  obtain ⟨i0, hi0, hz0, hz1, hz2⟩ := info_parts info_rnode
  obtain ⟨i1, hi1, hy0, hy1, hy2⟩ := info_parts info_rattr
  have Hh := Lib.hid h'; have Ha := Lib.hid ha12
  clear h h' ha12
  go_enter Try.func31, Try.ntmps31
  go_wp2_with fail
  have hown0 : (w.alloc (.cells #[] 87)).ownsRow w.heap.size 87 6 (.slice (some ⟨w.heap.size, 0, none⟩) 0 0) 0 [] := World.ownsRow_made w #[] 0 (Nat.le_refl _) (by simp [maxLen]) (by simp)
  have hO0 : OwnF 87 w.heap.size (w.alloc (.cells #[] 87)) (.slice (some ⟨w.heap.size, 0, none⟩) 0 0) (f.take 0) := ⟨[], hown0, fun i hi => absurd hi (by simp)⟩
  have HO0 := Lib.hid hO0
  clear hown0 hO0
  go_loopw [3, 4] (fun u i wr => ∃ k : Nat, k ≤ f.length ∧ i = .int .i64 k ∧ Hid (OwnF 87 w.heap.size wr u (f.take k)) ∧ Below w.heap.size w wr) (fun _ i _ => f.length - (intOf i).toNat)
  case atStart => exact ⟨0, Nat.zero_le _, rfl, HO0, (Below.refl _ _).alloc (Nat.le_refl _) _⟩
  case round =>
    obtain ⟨k, hk, rfl, hO, hb⟩ := hrel
    obtain ⟨xsO, hrowO, hndO⟩ := hO.out
    obtain ⟨AO, nO, cO, rfl⟩ := Build.own_form hrowO
    have HrowO := Lib.hid hrowO; have HndO := Lib.hid hndO
    clear hrowO hndO
    by_cases hlt : k < f.length
    · obtain ⟨b, o, Aa, ca, Ak, ck, rfl, hbl, g0, g1, g2, g3, g4, g5, ra, rk, la, lca, lk, lck, m1, m2, m3, m4⟩ := node_at Hh.out hlt
      have han := Ha.out f[k] (List.getElem_mem _)
      have htk : f.take (k + 1) = f.take k ++ [f[k]] := List.take_succ_eq_append_getElem hlt
      generalize f[k] = n at *
      obtain ⟨kd, nm, tx, ats, par, kks⟩ := n
      simp only at *
      simp only [maxLen] at lca lck m1 m2
      have hkeep := fun w' (hb' : Below w.heap.size w w') => (⟨cell_below hb' g0 hbl, cell_below hb' g1 hbl, cell_below hb' g2 hbl, cell_below hb' g3 hbl, cell_below hb' g4 hbl, cell_below hb' g5 hbl⟩ : _ ∧ _ ∧ _ ∧ _ ∧ _ ∧ _)
      obtain ⟨p0, p1, p2, p3, p4, p5⟩ := hkeep wr hb
      have hbwr : b < wr.heap.size := Nat.lt_of_lt_of_le hbl hb.size
      have Hkeep := Lib.hid hkeep; have Hra := Lib.hid ra; have Hrk := Lib.hid rk; have Htk := Lib.hid htk; have Hb := Lib.hid hb; have Hm3 := Lib.hid m3; have Hm4 := Lib.hid m4
      obtain ⟨wo, rfl⟩ : ∃ wo : World, wo = wr := ⟨_, rfl⟩
      have Hsm := Lib.hid (show nm.size ≤ maxLen ∧ tx.size ≤ maxLen ∧ (Lit.int .i64 kd).wf = true ∧ (Lit.int .i64 par).wf = true from ⟨by simp only [maxLen]; omega, by simp only [maxLen]; omega, m3, m4⟩)
      have Ha2 := Lib.hid (attrs_small ra)
      clear g0 g1 g2 g3 g4 g5 hkeep ra rk htk hb m3 m4
      go_wp2_with fail
      go_region_held3 (fun w' => w'.cell? ⟨b, o + k * 6, none⟩ = some (.int .i64 kd) ∧ w'.cell? ⟨b, o + k * 6 + 1, none⟩ = some (.string nm) ∧ w'.cell? ⟨b, o + k * 6 + 2, none⟩ = some (.string tx) ∧ w'.cell? ⟨b, o + k * 6 + 4, none⟩ = some (.int .i64 par) ∧ w'.cell? ⟨b, o + k * 6 + 5, none⟩ = some (.slice Ak kks.length ck))
        (first | exact ⟨p0, p1, p2, p4, p5⟩ | go_keep)
        ((fail))
      go_wp2_with fail
      obtain ⟨gn, hgn⟩ : ∃ gn, gn = wo.heap.size := ⟨_, rfl⟩
      have hG0 : NBox gn kd nm tx par (.slice Ak kks.length ck) (ats.take 0) (.slice none 0 0) wo ((wo.alloc (.cells #[.int .i64 kd, .string nm, .string tx, .slice none 0 0, .int .i64 par, .slice Ak kks.length ck] 87)).drew) :=
        ⟨heap_new hgn, World.ownsRow_nil _ _ _ _, ((Below.refl _ wo).alloc (Nat.le_refl _) _).drew⟩
      rw [← hgn]
      have HG0 := Lib.hid hG0
      have Hgn := Lib.hid hgn
      clear hG0 p0 p1 p2 p3 p4 p5 hgn
      go_loopw [6] (fun i wi => ∃ (j : Nat) (va : Value), j ≤ ats.length ∧ i = .int .i64 j ∧ Hid (NBox gn kd nm tx par (.slice Ak kks.length ck) (ats.take j) va wo wi)) (fun i _ => ats.length - (intOf i).toNat)
      case atStart => exact ⟨0, _, Nat.zero_le _, rfl, HG0⟩
      case round =>
        obtain ⟨j, va, hj, rfl, hN⟩ := hrel
        have hbw : Below w.heap.size w wr := bthen Hb.out hN.out.2.2
        obtain ⟨p0, p1, p2, p3, p4, p5⟩ := Hkeep.out wr hbw
        by_cases hjl : j < ats.length
        · obtain ⟨hbx, hrow, hbel⟩ := hN.out
          obtain ⟨A3, n3, c3, rfl⟩ := Build.own_form hrow
          have k3 : wr.cell? ⟨gn, 3, none⟩ = some (.slice A3 n3 c3) := (cell_of_row _ _ _ _ _ _ hbx).trans rfl
          have k3f := free_of hbx 3
          have hgl := lt_heap hbx
          have hr2 := (Hra.out.below attrE_keeps (w' := wr) hbw (Nat.le_refl _))
          obtain ⟨ba, oa, rfl, hba, q0, q1, mm1, mm2⟩ := FAttr.attr_at hr2 hjl
          have htj : ats.take (j + 1) = ats.take j ++ [ats[j]] := List.take_succ_eq_append_getElem hjl
          generalize ats[j] = a at *
          obtain ⟨an, av⟩ := a
          simp only at *
          have hrow' : wr.ownsRow (gn + 1) 88 2 (.slice A3 n3 c3) j (atCells (ats.take j)) := by rw [List.length_take, Nat.min_eq_left (by omega)] at hrow; exact hrow
          have hne3 : (Value.slice A3 n3 c3).ownBlock ≠ some gn := fun e => by have := (hrow.lt gn e).1; omega
          have hbl2 : ba < wr.heap.size := World.block_lt_of_cell? wr _ q0
          have hjn : (j : Int) < ats.length := by omega
          have hkn : (k : Int) < f.length := by omega
          have Hrow := Lib.hid hrow'; have Hbx := Lib.hid hbx; have Hbel := Lib.hid hbel; have Htj := Lib.hid htj; have Hne3 := Lib.hid hne3; have Hgl := Lib.hid hgl
          clear hrow hrow' hbx hbel htj hr2 hne3 hbw
          go_wp2_with fail
          go_region_law (refine step_append_lies _ rfl (.tmp 51) (.tmp 60) 85 rfl (gn + 1) 88 i1 _ 2 32 Try.underlying85 hi1 hy0 hy1 hy2 rfl (by decide) (.slice A3 n3 c3) j (atCells (ats.take j)) (by simp [Act.eval, Act.put]) ((Hrow.out.alloc _).drew) ⟨wr.heap.size, 0, none⟩ 1 1 [.string an, .string av] (by simp [Act.eval, Act.put]) rfl (World.news_of_block (cs := #[.string an, .string av]) (t := 88) (fr := (0, 0)) (heap_alloc_new wr _)) (by simp [Value.oneCell']) (by omega) (by simp only [maxLen]; omega) (by omega) (by simp; omega) (wr.heap.size + 1) (by simp) ?_; intro g7 cap7 w7 hown7 hgrow7 hat7 hlt7; have e7 := (hgrow7.block gn (Nat.lt_of_lt_of_le Hgl.out (by simp)) (fun e => Hne3.out e.symm)).trans (heap_old Hbx.out); have k7 : w7.cell? ⟨gn, 3, none⟩ = some (.slice A3 n3 c3) := (cell_of_row _ _ _ _ _ _ e7).trans rfl; have k7f := free_of e7 3; have E7 := Lib.hid e7; have Hown7 := Lib.hid hown7; have Hgrow7 := Lib.hid hgrow7; have Hat7 := Lib.hid hat7; clear e7 hown7 hgrow7 hat7)
          all_goals go_wp2_with fail
          all_goals
            go_roundw
            case rel =>
              refine ⟨j + 1, .slice (some ⟨g7, 0, none⟩) (j + 1) cap7, by omega, by go_num, Lib.hid ?_⟩
              rw [Htj.out]
              refine nbox_step Hgn.out hN.out rfl ?_ Hgrow7.out Hat7.out
              rw [atCells_snoc, List.length_append, List.length_take, Nat.min_eq_left (by omega)]
              exact Hown7.out
            case measure => simp [intOf]; omega
        · obtain rfl : j = ats.length := by omega
          rw [List.take_length] at hN
          obtain ⟨hbx, hrow, hbel⟩ := hN.out
          obtain ⟨A3, n3, c3, rfl⟩ := Build.own_form hrow
          have k0 : wr.cell? ⟨gn, 0, none⟩ = some (.int .i64 kd) := (cell_of_row _ _ _ _ _ _ hbx).trans rfl
          have k1 : wr.cell? ⟨gn, 1, none⟩ = some (.string nm) := (cell_of_row _ _ _ _ _ _ hbx).trans rfl
          have k2 : wr.cell? ⟨gn, 2, none⟩ = some (.string tx) := (cell_of_row _ _ _ _ _ _ hbx).trans rfl
          have k3 : wr.cell? ⟨gn, 3, none⟩ = some (.slice A3 n3 c3) := (cell_of_row _ _ _ _ _ _ hbx).trans rfl
          have k4 : wr.cell? ⟨gn, 4, none⟩ = some (.int .i64 par) := (cell_of_row _ _ _ _ _ _ hbx).trans rfl
          have k5 : wr.cell? ⟨gn, 5, none⟩ = some (.slice Ak kks.length ck) := (cell_of_row _ _ _ _ _ _ hbx).trans rfl
          have hkl : (f.take k).length = k := by rw [List.length_take]; omega
          have hrO : wr.ownsRow w.heap.size 87 6 (.slice AO nO cO) k xsO := by
            have := own_keep HrowO.out (w' := wr) (fun g hg => hbel.block g (HrowO.out.lt g hg).2)
            rwa [hkl] at this
          have hrO2 := own_keep hrO (w' := wr.alloc (.cells #[.int .i64 kd, .string nm, .string tx, .slice A3 n3 c3, .int .i64 par, .slice Ak kks.length ck] 87)) (fun g hg => Below.heap_alloc _ _ _ (hrO.lt g hg).2)
          have HrO2 := Lib.hid hrO2; have HN := Lib.hid hN.out
          have hsz : w.heap.size ≤ wr.heap.size := hbw.size
          clear hbx hrow hbel hrO hrO2 hN
          go_wp2_with (at_builtin; go_loud (refine wpList_append_own_at (wr.alloc (.cells #[.int .i64 kd, .string nm, .string tx, .slice A3 n3 c3, .int .i64 par, .slice Ak kks.length ck] 87)) rfl _ _ 38 rfl w.heap.size 87 i0 _ 6 96 Try.underlying38 hi0 hz0 hz1 hz2 rfl (by decide) (.slice AO nO cO) k xsO rfl HrO2.out ⟨wr.heap.size, 0, none⟩ 1 1 [.int .i64 kd, .string nm, .string tx, .slice A3 n3 c3, .int .i64 par, .slice Ak kks.length ck] rfl rfl (World.news_of_block (cs := #[.int .i64 kd, .string nm, .string tx, .slice A3 n3 c3, .int .i64 par, .slice Ak kks.length ck]) (t := 87) (fr := (0, 0)) (heap_alloc_new wr _)) (by simp [Value.oneCell']) (by simp only [maxLen]; omega) (by omega) (by simp; omega) ?_; intro v8 w8 hown8 hgrow8 hnil8 hat8; have Hown8 := Lib.hid hown8; have Hgrow8 := Lib.hid hgrow8; have Hat8 := Lib.hid hat8; clear hown8 hgrow8 hnil8 hat8))
          go_roundw
          case rel =>
            refine ⟨k + 1, by omega, by go_num, Lib.hid ?_, ?_⟩
            · rw [Htk.out]
              exact out_step hkl HndO.out HrowO.out HN.out Hgn.out (Hrk.out.keep (intE_keeps _) (bthen Hb.out HN.out.2.2) (Nat.le_refl _)) HrO2.out Hown8.out Hgrow8.out Hat8.out (Ha2.out) Hsm.out hsz
            · exact ((bthen Hb.out HN.out.2.2).alloc hsz _).trans ((Off.grown (Y := fun b => w.heap.size ≤ b) Hgrow8.out (fun r hr => (HrowO.out.lt r hr).1)).toBelow (by simp; omega) (fun b hb => hb))
          case measure => simp [intOf]; omega
    · obtain rfl : k = f.length := by omega
      have hfin := hO.out
      rw [List.take_length] at hfin
      have Hfin := Lib.hid hfin; have Hb := Lib.hid hb
      clear hfin hb hlt
      go_wp2_with fail
      go_ret
      exact ⟨_, rfl, Hfin.out, Hb.out⟩
end Go.Proofs.Ytbbompmpecblgaa.Its
