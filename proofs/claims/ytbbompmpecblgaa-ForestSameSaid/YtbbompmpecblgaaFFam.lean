/- forest.family. -/
import Derived.Test.YtbbompmpecblgaaFAttr
import Derived.Deep.OwnRows
namespace Go.Proofs.Ytbbompmpecblgaa.FFam
open Go Go.RowKit Go.Proofs.Ytbbompmpecblgaa.Seq Go.Proofs.Ytbbompmpecblgaa.WS Go.Proofs.Ytbbompmpecblgaa.FS Go.Proofs.Ytbbompmpecblgaa.WordIt Go.Proofs.Ytbbompmpecblgaa.Mem Go.Proofs.Ytbbompmpecblgaa.Rd Go.Proofs.Ytbbompmpecblgaa.Word Go.Proofs.Ytbbompmpecblgaa.WordHas Go.Proofs.Ytbbompmpecblgaa.Shapes
set_option linter.unusedVariables false
set_option linter.unusedSimpArgs false

/-! The plain side. -/
theorem at_nat {f : Fo} {i : Nat} (hi : i < f.length) : at_ f (i : Int) = f[i] := by
  unfold at_
  rw [if_pos (by omega), Int.toNat_natCast, List.getD_eq_getElem?_getD, List.getElem?_eq_getElem hi]
  rfl
theorem isNode_iff (f : Fo) (k : Int) : isNode f k = true ↔ 0 ≤ k ∧ k < f.length := by unfold isNode; simp
theorem kid_bad {f : Fo} {id : Nat} {n : Nd} {j : Nat} (hj : j < n.kids.length) (h : isNode f n.kids[j] = false ∨ (at_ f n.kids[j]).parent ≠ id) : kidsB f id n = false := by
  unfold kidsB
  rw [Bool.and_eq_false_iff]
  left
  rw [List.all_eq_false]
  refine ⟨n.kids[j], List.getElem_mem _, ?_⟩
  rcases h with h | h
  · rw [h]; simp
  · rw [decide_eq_false h]; simp
theorem kid_bad0 {f : Fo} {n : Nd} {j : Nat} (hj : j < n.kids.length) (h : (at_ f n.kids[j]).kind = 2 ∨ 2 ≤ elems f (n.kids.take (j + 1))) : kidsB f 0 n = false := by
  unfold kidsB
  rw [Bool.and_eq_false_iff]
  right
  rw [Bool.or_eq_false_iff]
  refine ⟨by simp, ?_⟩
  rw [Bool.and_eq_false_iff]
  rcases h with h | h
  · left
    rw [List.all_eq_false]
    exact ⟨n.kids[j], List.getElem_mem _, by rw [h]; simp⟩
  · right
    rw [decide_eq_false_iff_not]
    have : elems f (n.kids.take (j + 1)) ≤ elems f n.kids := by
      unfold elems
      conv => rhs; rw [← List.take_append_drop (j + 1) n.kids]
      rw [List.countP_append]; omega
    omega
/-- What is known of the kids up to j. -/
def KidsUp (f : Fo) (id : Nat) (l : List Int) (j : Nat) : Prop :=
  (∀ k ∈ l.take j, isNode f k = true ∧ (at_ f k).parent = id) ∧ (id = 0 → (∀ k ∈ l.take j, (at_ f k).kind ≠ 2) ∧ elems f (l.take j) ≤ 1)
theorem KidsUp.zero (f : Fo) (id : Nat) (l : List Int) : KidsUp f id l 0 := ⟨by simp, fun _ => ⟨by simp, by simp [elems]⟩⟩
theorem KidsUp.all {f : Fo} {id : Nat} {n : Nd} (h : KidsUp f id n.kids n.kids.length) : kidsB f id n = true := by
  obtain ⟨h1, h2⟩ := h
  rw [List.take_length] at h1 h2
  unfold kidsB
  rw [Bool.and_eq_true, List.all_eq_true]
  refine ⟨fun k hk => by rw [(h1 k hk).1, decide_eq_true (h1 k hk).2]; rfl, ?_⟩
  by_cases h0 : id = 0
  · obtain ⟨h3, h4⟩ := h2 h0
    rw [List.all_eq_true.2 (fun k hk => by simpa using h3 k hk), decide_eq_true h4]
    simp
  · simp [h0]
theorem elems_succ {f : Fo} {l : List Int} {j : Nat} (hj : j < l.length) : elems f (l.take (j + 1)) = elems f (l.take j) + if (at_ f l[j]).kind = 1 then 1 else 0 := by
  unfold elems
  rw [List.take_succ_eq_append_getElem hj, List.countP_append, List.countP_singleton]
  simp
theorem KidsUp.succ {f : Fo} {id : Nat} {l : List Int} {j : Nat} (h : KidsUp f id l j) (hj : j < l.length) (h1 : isNode f l[j] = true) (h2 : (at_ f l[j]).parent = id) (h3 : id = 0 → (at_ f l[j]).kind ≠ 2 ∧ elems f (l.take (j + 1)) ≤ 1) : KidsUp f id l (j + 1) := by
  rw [KidsUp, List.take_succ_eq_append_getElem hj]
  refine ⟨fun k hk => ?_, fun h0 => ⟨fun k hk => ?_, by rw [← List.take_succ_eq_append_getElem hj]; exact (h3 h0).2⟩⟩
  · rcases List.mem_append.1 hk with hk | hk
    · exact h.1 k hk
    · simp at hk; subst hk; exact ⟨h1, h2⟩
  · rcases List.mem_append.1 hk with hk | hk
    · exact (h.2 h0).1 k hk
    · simp at hk; subst hk; exact (h3 h0).1
theorem fam_bad1 {f : Fo} {id : Nat} (hi : id < f.length) (h : kidsB f id f[id] = false) : familyB f = false := by
  unfold familyB
  rw [Bool.and_eq_false_iff]
  left
  rw [List.all_eq_false]
  exact ⟨id, List.mem_range.2 hi, by rw [at_nat hi, h]; simp⟩
theorem fam_bad2 {f : Fo} {id : Nat} (hi : id < f.length) (h : parentB f id f[id] = false) : familyB f = false := by
  unfold familyB
  rw [Bool.and_eq_false_iff]
  right
  rw [List.all_eq_false]
  exact ⟨id, List.mem_range.2 hi, by rw [at_nat hi, h]; simp⟩
theorem fam_good {f : Fo} (h1 : ∀ id (hi : id < f.length), kidsB f id f[id] = true) (h2 : ∀ id (hi : id < f.length), parentB f id f[id] = true) : familyB f = true := by
  unfold familyB
  rw [Bool.and_eq_true, List.all_eq_true, List.all_eq_true]
  exact ⟨fun id hi => by rw [List.mem_range] at hi; rw [at_nat hi]; exact h1 id hi, fun id hi => by rw [List.mem_range] at hi; rw [at_nat hi]; exact h2 id hi⟩
/-- How often i was told as a kid, when the walk is at the j-th kid of node id. -/
def told (f : Fo) (id : Nat) (l : List Int) (i : Nat) : Nat := known (f.take id) i + l.count (i : Int)
theorem told_next {f : Fo} {id : Nat} (hi : id < f.length) (i : Nat) : told f id f[id].kids i = told f (id + 1) [] i := by
  unfold told known
  rw [List.take_succ_eq_append_getElem hi, List.map_append, List.sum_append]
  simp
theorem told_snoc (f : Fo) (id : Nat) (l : List Int) (x : Nat) (i : Nat) : told f id (l ++ [(x : Int)]) i = told f id l i + if x = i then 1 else 0 := by
  unfold told
  rw [List.count_append]
  by_cases h : x = i
  · subst h; simp; omega
  · rw [if_neg h]
    have : [(x : Int)].count (i : Int) = 0 := List.count_eq_zero_of_not_mem (by simp; omega)
    omega
theorem told_le {f : Fo} {M : Nat} (hk : ∀ n ∈ f, n.kids.length ≤ M) {id : Nat} (l : List Int) (hl : l.length ≤ M) (i : Nat) (hid : id ≤ f.length) : told f id l i ≤ (id + 1) * M := by
  unfold told known
  have h1 : ∀ (g : Fo), (∀ n ∈ g, n.kids.length ≤ M) → (g.map (fun n => n.kids.count (i : Int))).sum ≤ g.length * M := by
    intro g
    induction g with
    | nil => intro _; simp
    | cons n g ih =>
      intro h
      rw [List.map_cons, List.sum_cons, List.length_cons, Nat.add_mul]
      have := ih (fun n hn => h n (by simp [hn]))
      have := h n (by simp)
      have := List.count_le_length (a := (i : Int)) (l := n.kids)
      omega
  have h2 := h1 (f.take id) (fun n hn => hk n (List.mem_of_mem_take hn))
  have h3 : (f.take id).length = id := by simp; omega
  rw [h3] at h2
  have := List.count_le_length (a := (i : Int)) (l := l)
  rw [Nat.add_mul]
  omega
/-- A row of counts. -/
def cRow (n : Nat) (c : Nat → Nat) : List Value := (List.range n).map (fun i => Value.int .i64 (c i : Nat))
theorem cRow_length (n : Nat) (c : Nat → Nat) : (cRow n c).length = n := by simp [cRow]
theorem cRow_get {n : Nat} {c : Nat → Nat} {i : Nat} (hi : i < n) : (cRow n c)[i]? = some (Value.int .i64 (c i : Nat)) := by
  simp [cRow, hi]
theorem cRow_set {n : Nat} {c c' : Nat → Nat} {i : Nat} (hi : i < n) {u : Value} (hu : u = Value.int .i64 (c' i : Nat)) (hc : ∀ j, j ≠ i → c' j = c j) : (cRow n c).set i u = cRow n c' := by
  apply List.ext_getElem?
  intro j
  rw [List.getElem?_set]
  by_cases hj : i = j
  · subst hj
    rw [if_pos rfl, if_pos (by rw [cRow_length]; exact hi), cRow_get hi, hu]
  · rw [if_neg hj]
    by_cases hjn : j < n
    · rw [cRow_get hjn, cRow_get hjn, hc j (fun e => hj e.symm)]
    · rw [List.getElem?_eq_none (by rw [cRow_length]; omega), List.getElem?_eq_none (by rw [cRow_length]; omega)]
theorem cRow_congr {n : Nat} {c c' : Nat → Nat} (h : ∀ j, c j = c' j) : cRow n c = cRow n c' := by rw [show c = c' from funext h]

/-! The memory. -/
theorem node_at {B : Nat} {w : World} {A : Option Addr} {n c : Nat} {f : Fo} (h : RdF B w (.slice A n c) f) {i : Nat} (hi : i < f.length) :
    ∃ (b o : Nat) (Aa : Option Addr) (ca : Nat) (Ak : Option Addr) (ck : Nat), A = some ⟨b, o, none⟩ ∧ b < B ∧ w.cell? ⟨b, o + i * 6, none⟩ = some (.int .i64 f[i].kind) ∧ w.cell? ⟨b, o + i * 6 + 1, none⟩ = some (.string f[i].name) ∧ w.cell? ⟨b, o + i * 6 + 2, none⟩ = some (.string f[i].text) ∧
      w.cell? ⟨b, o + i * 6 + 3, none⟩ = some (.slice Aa f[i].attrs.length ca) ∧ w.cell? ⟨b, o + i * 6 + 4, none⟩ = some (.int .i64 f[i].parent) ∧ w.cell? ⟨b, o + i * 6 + 5, none⟩ = some (.slice Ak f[i].kids.length ck) ∧
      RdL attrE 2 B w (.slice Aa f[i].attrs.length ca) f[i].attrs ∧ RdL (intE .i64) 1 B w (.slice Ak f[i].kids.length ck) f[i].kids ∧ f[i].attrs.length ≤ ca ∧ ca ≤ maxLen ∧ f[i].kids.length ≤ ck ∧ ck ≤ maxLen ∧
      f[i].name.size ≤ maxLen ∧ f[i].text.size ≤ maxLen ∧ (Lit.int .i64 f[i].kind).wf = true ∧ (Lit.int .i64 f[i].parent).wf = true := by
  obtain ⟨b, o, cs, e, hlt, hl, hc, va, vk, rfl, ha, hk, m1, m2, m3, m4⟩ := h.at_ hi
  obtain ⟨Aa, ca, rfl, p1, p2, ha'⟩ := ha.form
  obtain ⟨Ak, ck, rfl, p3, p4, hk'⟩ := hk.form
  exact ⟨b, o, Aa, ca, Ak, ck, e, hlt, hc 0 _ rfl, hc 1 _ rfl, hc 2 _ rfl, hc 3 _ rfl, hc 4 _ rfl, hc 5 _ rfl, ha', hk', p1, p2, p3, p4, m1, m2, m3, m4⟩
theorem info_int : (Try.prog.info? 3).map (fun i => (i.zero, i.size, i.bytes)) = some (some (.int .i64 0), 1, 8) := by kernel_rfl
theorem made_row (n : Nat) : (madeCells #[Value.int .i64 0] n).toList = cRow n (fun _ => 0) := by
  rw [toList_madeCells_one]
  apply List.ext_getElem?
  intro i
  by_cases hi : i < n
  · rw [cRow_get hi]; simp [hi]
  · rw [List.getElem?_eq_none (by simp; omega), List.getElem?_eq_none (by rw [cRow_length]; omega)]
set_option maxRecDepth 100000 in
set_option maxHeartbeats 8000000 in
theorem family_calls (w : World) (v : Value) (f : Fo) (h : RdF w.heap.size w v f) (hf : f.length ≤ 60) (hkm : ∀ n ∈ f, n.kids.length ≤ 1000) :
    Calls Try.prog 66 #[v] w fun e w' => e = .returned (.bool (familyB f)) ∧ Below w.heap.size w w' := by
  have HR := Lib.hid (fun w' hb => h.below nodeE_keeps (w' := w') hb (Nat.le_refl _))
  obtain ⟨A0, c0, rfl, hl0, hc0, _⟩ := h.form
  simp only [maxLen] at hc0
  have hmk := fun W => run_make_row' (P := Try.prog) 40 3 (.int .i64 0) 8 Try.underlying40 info_int rfl .i64 .i64 f.length (by omega) (by omega) W
  clear h
  go_enter Try.func66, Try.ntmps66
  go_wp2
  clear hmk
  have hown0 : (w.alloc (.cells (madeCells #[.int .i64 0] f.length) 3)).ownsRow w.heap.size 3 1 (.slice (some ⟨w.heap.size, 0, none⟩) f.length f.length) f.length (cRow f.length (told f 0 [])) := by
    have := World.ownsRow_lit (base := w.heap.size) (e := 3) (size := 1) w (madeCells #[.int .i64 0] f.length) f.length (Nat.le_refl _) (by simp only [maxLen]; omega) (by rw [size_madeCells]; omega)
    rw [made_row] at this
    rw [cRow_congr (c' := fun _ => 0) (fun j => by simp [told, known])]
    exact this
  have hb0 := (Below.refl w.heap.size w).alloc (Nat.le_refl _) (.cells (madeCells #[.int .i64 0] f.length) 3)
  have Hown0 := Lib.hid hown0; have Hb0 := Lib.hid hb0; have Hkm := Lib.hid hkm
  clear hown0 hb0 hkm
  go_loopw [16] (fun i wr => ∃ id : Nat, id ≤ f.length ∧ i = .int .i64 id ∧ wr.ownsRow w.heap.size 3 1 (.slice (some ⟨w.heap.size, 0, none⟩) f.length f.length) f.length (cRow f.length (told f id [])) ∧ Below w.heap.size w wr ∧ ∀ j (hj : j < f.length), j < id → kidsB f j f[j] = true) (fun i _ => f.length - (intOf i).toNat)
  case atStart => exact ⟨0, Nat.zero_le _, rfl, Hown0.out, Hb0.out, fun j hj h => by omega⟩
  case round =>
    obtain ⟨wo, hwo⟩ : ∃ wo, wo = wr := ⟨_, rfl⟩
    subst hwo
    obtain ⟨id, hid, rfl, h1, h2, h3⟩ := hrel
    by_cases hlt : id < f.length
    · obtain ⟨b, o, Aa, ca, Ak, ck, rfl, hbl, g0, g1, g2, g3, g4, g5, ra, rk, la, lca, lk, lck, m1, m2, m3, m4⟩ := node_at (HR.out _ h2) hlt
      have hkl := Hkm.out f[id] (List.getElem_mem _)
      have hbx := h2.alloc h2.size (.cells #[.int .i64 f[id].kind, .string f[id].name, .string f[id].text, .slice Aa f[id].attrs.length ca, .int .i64 f[id].parent, .slice Ak f[id].kids.length ck] 45)
      have hox := own_keep h1 (w' := wo.alloc (.cells #[.int .i64 f[id].kind, .string f[id].name, .string f[id].text, .slice Aa f[id].attrs.length ca, .int .i64 f[id].parent, .slice Ak f[id].kids.length ck] 45)) (fun g hg => Below.heap_alloc _ _ _ (h1.lt g hg).2)
      have H1 := Lib.hid h1; have H2 := Lib.hid h2; have H3 := Lib.hid h3; have Hra := Lib.hid ra; have Hrk := Lib.hid rk; have Hbx := Lib.hid hbx; have Hox := Lib.hid hox
      simp only [maxLen] at lck
      clear h1 h2 h3 ra rk hbx hox m1 m2 m3 m4
      go_wp2
      clear g0 g1 g2 g3 g4 g5
      have hnx : ∀ (wz : World) (j : Nat), j = f[id].kids.length → wz.ownsRow w.heap.size 3 1 (.slice (some ⟨w.heap.size, 0, none⟩) f.length f.length) f.length (cRow f.length (told f id (f[id].kids.take j))) → wz.ownsRow w.heap.size 3 1 (.slice (some ⟨w.heap.size, 0, none⟩) f.length f.length) f.length (cRow f.length (told f (id + 1) [])) := fun wz j hj h => by
        rw [hj, List.take_length, cRow_congr (c' := told f (id + 1) []) (fun i => told_next hlt i)] at h
        exact h
      have Hnx := Lib.hid hnx; clear hnx
      go_loopw [6, 24] (fun e i wr => ∃ j : Nat, j ≤ f[id].kids.length ∧ i = .int .i64 j ∧ e = .int .i64 (elems f (f[id].kids.take j) : Nat) ∧ wr.ownsRow w.heap.size 3 1 (.slice (some ⟨w.heap.size, 0, none⟩) f.length f.length) f.length (cRow f.length (told f id (f[id].kids.take j))) ∧ Below w.heap.size wo wr ∧ KidsUp f id f[id].kids j) (fun _ i _ => f[id].kids.length - (intOf i).toNat)
      case atStart => exact ⟨0, Nat.zero_le _, rfl, rfl, Hox.out, (Below.refl _ _).alloc H2.out.size _, KidsUp.zero _ _ _⟩
      case round =>
        obtain ⟨j, hj, rfl, rfl, h1, h2, h3⟩ := hrel
        by_cases hjl : j < f[id].kids.length
        · obtain ⟨bk, ok, rfl, hbk, gk, hwf⟩ := intE_at (Hrk.out.keep (intE_keeps _) h2 (Nat.le_refl _)) hjl
          have hW : Below w.heap.size w wr := H2.out.trans h2
          have hbad := kid_bad (f := f) (id := id) (n := f[id]) hjl
          have hbad0 := kid_bad0 (f := f) (n := f[id]) hjl
          have hsucc := h3.succ hjl
          have hel := elems_succ (f := f) hjl
          have hell : elems f (f[id].kids.take j) ≤ j := Nat.le_trans List.countP_le_length (List.length_take_le _ _)
          have htk := List.take_succ_eq_append_getElem hjl
          by_cases hneg : f[id].kids[j] < 0
          · have hff := fam_bad1 hlt (hbad (.inl (by rw [← Bool.not_eq_true, isNode_iff]; omega)))
            generalize f[id].kids[j] = x at *
            have Hff := Lib.hid hff; have HW := Lib.hid hW
            clear h1 h2 h3 hbad hbad0 hsucc hel hff hW htk hwf
            go_wp2
            go_ret
            exact ⟨ret_bool Hff.out.symm, HW.out⟩
          · by_cases hbig : (f.length : Int) ≤ f[id].kids[j]
            · have hff := fam_bad1 hlt (hbad (.inl (by rw [← Bool.not_eq_true, isNode_iff]; omega)))
              generalize f[id].kids[j] = x at *
              have Hff := Lib.hid hff; have HW := Lib.hid hW
              clear h1 h2 h3 hbad hbad0 hsucc hel hff hW htk hwf
              go_wp2
              go_ret
              exact ⟨ret_bool Hff.out.symm, HW.out⟩
            · obtain ⟨x, hx⟩ : ∃ x : Nat, f[id].kids[j] = x := ⟨f[id].kids[j].toNat, by omega⟩
              have hxl : x < f.length := by omega
              rw [hx] at gk hbad hbad0 hsucc hel htk
              rw [at_nat hxl] at hbad hbad0 hsucc hel
              obtain ⟨b', o', _, _, _, _, he, _, n0, _, _, _, n4, _⟩ := node_at (HR.out _ hW) hxl
              simp only [Option.some.injEq, Addr.mk.injEq, and_true] at he
              obtain ⟨rfl, rfl⟩ := he
              generalize hkd : f[x].kind = kd at *
              generalize hpr : f[x].parent = pr at *
              clear hneg hbig
              have e1 : (kd == 1) = decide (kd = 1) := rfl
              have e2 : (kd == 2) = decide (kd = 2) := rfl
              by_cases hpi : pr = (id : Int)
              case neg =>
                have hff := fam_bad1 hlt (hbad (.inr hpi))
                have hpb : (pr == (id : Int)) = false := by rw [beq_eq_false_iff_ne]; exact hpi
                have hpb2 : (pr != (id : Int)) = true := by rw [bne_iff_ne]; exact hpi
                have Hff := Lib.hid hff; have HW := Lib.hid hW
                clear h1 h2 h3 hbad hbad0 hsucc hel hff hW htk hwf e1 e2 hpi
                go_wp2
                go_ret
                exact ⟨ret_bool Hff.out.symm, HW.out⟩
              case pos =>
                subst hpi
                have hcl := h1.cellAt x (by omega)
                rw [cRow_get hxl] at hcl
                have hfz := h1.frozenAt x
                have htb := told_le Hkm.out (id := id) (f[id].kids.take j) (by rw [List.length_take]; omega) x hid
                have htn : told f id (f[id].kids.take j) x + 1 = told f id (f[id].kids.take (j + 1)) x := by rw [htk, told_snoc, if_pos rfl]
                have hst : ∀ u, u = Value.int .i64 ((told f id (f[id].kids.take j) x : Int) + 1) → (wr.setCell ⟨w.heap.size, x, none⟩ u).ownsRow w.heap.size 3 1 (.slice (some ⟨w.heap.size, 0, none⟩) f.length f.length) f.length (cRow f.length (told f id (f[id].kids.take (j + 1)))) := fun u hu => by
                  have := (h1.stored x u).1
                  rwa [cRow_set hxl (c' := told f id (f[id].kids.take (j + 1))) (by rw [hu, ← htn]; rfl) (fun i hi => by rw [htk, told_snoc, if_neg (fun e => hi e.symm)]; rfl)] at this
                have hbs : ∀ u, Below w.heap.size wo (wr.setCell ⟨w.heap.size, x, none⟩ u) := fun u => h2.setCell (p := ⟨w.heap.size, x, none⟩) (Nat.le_refl _) u
                have n0' : ∀ u, (wr.setCell ⟨w.heap.size, x, none⟩ u).cell? ⟨b, o + x * 6, none⟩ = some (.int .i64 kd) := fun u => (World.cell?_of_block (set_other (by show b ≠ w.heap.size; omega))).trans n0
                generalize told f id (f[id].kids.take j) x = tv at *
                have hto : (id + 1) * 1000 ≤ 61000 := by omega
                have hpb2 : ((id : Int) != (id : Int)) = false := by simp
                have Hst := Lib.hid hst; have Hbs := Lib.hid hbs
                have H1 := Lib.hid h1; have H3 := Lib.hid h3
                clear h1 h2 h3 hbad htk hwf hst hbs htn
                by_cases h0 : id = 0
                · have hel1 := (H3.out.2 h0).2
                  have hid0 : ((id : Int) == 0) = true := by rw [h0]; rfl
                  have hbad0 : kd = 2 ∨ 2 ≤ elems f (f[id].kids.take (j + 1)) → kidsB f id f[id] = false := by subst h0; exact hbad0
                  have H0 := Lib.hid h0; clear h0
                  by_cases hk2 : kd = 2
                  · subst hk2
                    have hff := fam_bad1 hlt (hbad0 (.inl rfl))
                    have Hff := Lib.hid hff; have HW := Lib.hid hW
                    clear hbad0 hsucc hel hel1 hff hW e1 e2
                    go_wp2
                    go_ret
                    exact ⟨ret_bool Hff.out.symm, ((Below.refl w.heap.size w).trans H2.out).trans (Hbs.out _)⟩
                  · rw [decide_eq_false hk2] at e2
                    by_cases hk1 : kd = 1
                    · subst hk1
                      rw [if_pos rfl] at hel
                      by_cases he0 : elems f (f[id].kids.take j) = 0
                      · have hk1 := hsucc (by rw [isNode_iff]; omega) rfl (fun _ => ⟨by decide, by omega⟩)
                        have Hk1 := Lib.hid hk1; have Hel := Lib.hid hel
                        clear hbad0 hsucc hel hel1 hW e1 e2 hk1
                        rw [he0] at *
                        go_wp2
                        go_roundw
                        case rel => exact ⟨j + 1, by omega, by go_num, by rw [Hel.out]; rfl, Hst.out _ rfl, Hbs.out _, Hk1.out⟩
                        case measure => simp [intOf]; omega
                      · have hff := fam_bad1 hlt (hbad0 (.inr (by omega)))
                        have Hff := Lib.hid hff
                        clear hbad0 hsucc hel hff hW e1 e2
                        generalize elems f (f[id].kids.take j) = ev at *
                        go_wp2
                        go_ret
                        exact ⟨ret_bool Hff.out.symm, ((Below.refl w.heap.size w).trans H2.out).trans (Hbs.out _)⟩
                    · rw [decide_eq_false hk1] at e1
                      rw [if_neg hk1, Nat.add_zero] at hel
                      have hk1 := hsucc (by rw [isNode_iff]; omega) rfl (fun _ => ⟨hk2, by omega⟩)
                      have Hk1 := Lib.hid hk1; have Hel := Lib.hid hel
                      clear hbad0 hsucc hel hW hk1 hk2
                      generalize hev : elems f (f[id].kids.take j) = ev at *
                      have Hev := Lib.hid hev; clear hev
                      go_wp2
                      go_roundw
                      case rel => exact ⟨j + 1, by omega, by go_num, by first | (rw [Hel.out]; done) | (rw [Hel.out]; rfl), Hst.out _ rfl, Hbs.out _, Hk1.out⟩
                      case measure => simp [intOf]; omega
                · have hid0 : ((id : Int) == 0) = false := by rw [beq_eq_false_iff_ne]; omega
                  have hk1 := hsucc (by rw [isNode_iff]; omega) rfl (fun h => absurd h h0)
                  have Hk1 := Lib.hid hk1; clear hk1
                  by_cases hk1 : kd = 1
                  · subst hk1
                    rw [if_pos rfl] at hel
                    have Hel := Lib.hid hel
                    clear hbad0 hsucc hel hW e1 e2
                    go_wp2
                    go_roundw
                    case rel => exact ⟨j + 1, by omega, by go_num, by rw [Hel.out]; rfl, Hst.out _ rfl, Hbs.out _, Hk1.out⟩
                    case measure => simp [intOf]; omega
                  · rw [decide_eq_false hk1] at e1
                    rw [if_neg hk1, Nat.add_zero] at hel
                    have Hel := Lib.hid hel
                    clear hbad0 hsucc hel hW e2 hk1
                    go_wp2
                    go_roundw
                    case rel => exact ⟨j + 1, by omega, by go_num, by first | (rw [Hel.out]; done) | (rw [Hel.out]; rfl), Hst.out _ rfl, Hbs.out _, Hk1.out⟩
                    case measure => simp [intOf]; omega
        · obtain rfl : j = f[id].kids.length := by omega
          have H1 := Lib.hid (Hnx.out wr _ rfl h1); have H2 := Lib.hid (H2.out.trans h2)
          have hall := h3.all
          have Hall : Hid (∀ j (hj : j < f.length), j < id + 1 → kidsB f j f[j] = true) := Lib.hid (fun j hj hjk => by
            by_cases e : j = id
            · subst e; exact hall
            · exact H3.out j hj (by omega))
          clear h1 h2 h3 hall
          go_wp2
          go_roundw
          case rel => exact ⟨id + 1, by omega, by go_num, H1.out, H2.out, Hall.out⟩
          case measure => simp [intOf]; omega
    · obtain rfl : id = f.length := by omega
      have hkn : ∀ i : Nat, told f f.length [] i = known f i := fun i => by simp [told]
      have h1' := h1
      rw [cRow_congr (c' := fun i : Nat => known f i) hkn] at h1'
      have H1 := Lib.hid h1'; have H2 := Lib.hid h2; have H3 := Lib.hid h3
      clear h1 h1' h2 h3 hkn
      go_wp2
      go_loopw [77] (fun i wr => ∃ id : Nat, id ≤ f.length ∧ i = .int .i64 id ∧ wr.ownsRow w.heap.size 3 1 (.slice (some ⟨w.heap.size, 0, none⟩) f.length f.length) f.length (cRow f.length (fun i : Nat => known f i)) ∧ Below w.heap.size w wr ∧ ∀ j (hj : j < f.length), j < id → parentB f j f[j] = true) (fun i _ => f.length - (intOf i).toNat)
      case atStart => exact ⟨0, Nat.zero_le _, rfl, H1.out, H2.out, fun j hj h => by omega⟩
      case round =>
        obtain ⟨id, hid, rfl, h1, h2, h3⟩ := hrel
        by_cases hlt : id < f.length
        · obtain ⟨b, o, Aa, ca, Ak, ck, rfl, hbl, g0, g1, g2, g3, g4, g5, ra, rk, la, lca, lk, lck, m1, m2, m3, m4⟩ := node_at (HR.out _ h2) hlt
          have hbx := h2.alloc h2.size (.cells #[.int .i64 f[id].kind, .string f[id].name, .string f[id].text, .slice Aa f[id].attrs.length ca, .int .i64 f[id].parent, .slice Ak f[id].kids.length ck] 45)
          have hox := own_keep h1 (w' := wr.alloc (.cells #[.int .i64 f[id].kind, .string f[id].name, .string f[id].text, .slice Aa f[id].attrs.length ca, .int .i64 f[id].parent, .slice Ak f[id].kids.length ck] 45)) (fun g hg => Below.heap_alloc _ _ _ (h1.lt g hg).2)
          have hcl := hox.cellAt id (by omega)
          rw [cRow_get hlt] at hcl
          have hbadp : parentB f id f[id] = false → familyB f = false := fam_bad2 hlt
          have hgoodp : parentB f id f[id] = true → ∀ j (hj : j < f.length), j < id + 1 → parentB f j f[j] = true := fun h j hj hjk => by
            by_cases e : j = id
            · subst e; exact h
            · exact h3 j hj (by omega)
          have hpd : parentB f id f[id] = (decide (-1 ≤ f[id].parent) && decide (f[id].parent < f.length) && (decide (f[id].parent < 0) || decide (known f id = 1))) := rfl
          rw [hpd] at hbadp hgoodp
          have Hbx := Lib.hid hbx; have Hox := Lib.hid hox
          clear h1 h2 h3 ra rk hbx hox m1 m2 m3 m4 hpd
          generalize hkc : known f id = kc at *
          have ek : ((kc : Int) == 1) = decide (kc = 1) := by rw [Bool.eq_iff_iff]; simp; omega
          have ek2 : ((kc : Int) != 1) = !decide (kc = 1) := by rw [← ek]; rfl
          have hcase : (f[id].parent < -1) ∨ ((f.length : Int) ≤ f[id].parent) ∨ (f[id].parent = -1) ∨ (0 ≤ f[id].parent ∧ f[id].parent < f.length ∧ kc ≠ 1) ∨ (0 ≤ f[id].parent ∧ f[id].parent < f.length ∧ kc = 1) := by omega
          generalize f[id].parent = pr at *
          rcases hcase with h | h | h | ⟨h, h', hc⟩ | ⟨h, h', hc⟩
          · have Hff := Lib.hid (hbadp (by rw [decide_eq_false (show ¬ -1 ≤ pr by omega)]; rfl))
            clear hbadp hgoodp ek ek2
            go_wp2
            go_ret
            exact ⟨ret_bool Hff.out.symm, Hbx.out⟩
          · have Hff := Lib.hid (hbadp (by rw [decide_eq_false (show ¬ pr < f.length by omega)]; simp))
            clear hbadp hgoodp ek ek2
            go_wp2
            go_ret
            exact ⟨ret_bool Hff.out.symm, Hbx.out⟩
          · have Hg := Lib.hid (hgoodp (by rw [decide_eq_true (show -1 ≤ pr by omega), decide_eq_true (show pr < f.length by omega), decide_eq_true (show pr < 0 by omega)]; rfl))
            clear hbadp hgoodp ek ek2
            subst h
            go_wp2
            go_roundw
            case rel => exact ⟨id + 1, by omega, by go_num, Hox.out, Hbx.out, Hg.out⟩
            case measure => simp [intOf]; omega
          · have Hff := Lib.hid (hbadp (by rw [decide_eq_false (show ¬ pr < 0 by omega), decide_eq_false hc]; simp))
            rw [decide_eq_false hc] at ek ek2
            simp only [Bool.not_false] at ek2
            clear hbadp hgoodp
            go_wp2
            go_ret
            exact ⟨ret_bool Hff.out.symm, Hbx.out⟩
          · have Hg := Lib.hid (hgoodp (by rw [decide_eq_true (show -1 ≤ pr by omega), decide_eq_true h', decide_eq_true hc]; simp))
            subst hc
            simp only [decide_true, Bool.not_true] at ek ek2
            clear hbadp hgoodp
            go_wp2
            go_roundw
            case rel => exact ⟨id + 1, by omega, by go_num, Hox.out, Hbx.out, Hg.out⟩
            case measure => simp [intOf]; omega
        · obtain rfl : id = f.length := by omega
          have hff := fam_good (fun j hj => H3.out j hj hj) (fun j hj => h3 j hj hj)
          have Hff := Lib.hid hff; have H22 := Lib.hid h2
          clear h1 h2 h3 hff
          go_wp2
          go_ret
          exact ⟨ret_bool Hff.out.symm, H22.out⟩
end Go.Proofs.Ytbbompmpecblgaa.FFam
