/- Joined by a program: FFam, BackIt, SeqR, FSpec2. -/
import Derived.Deep.OwnRows
import Derived.Test.YtbbompmpecblgaaC04
import Derived.Test.YtbbompmpecblgaaC01
import Derived.Test.YtbbompmpecblgaaC02
import Derived.Test.YtbbompmpecblgaaC03
section
/- forest.family. -/
namespace Go.Proofs.Ytbbompmpecblgaa.FFam
open Go Go.RowKit Go.Proofs.Ytbbompmpecblgaa.Seq Go.Proofs.Ytbbompmpecblgaa.WS Go.Proofs.Ytbbompmpecblgaa.FS Go.Proofs.Ytbbompmpecblgaa.WordIt Go.Proofs.Ytbbompmpecblgaa.Mem Go.Proofs.Ytbbompmpecblgaa.Rd Go.Proofs.Ytbbompmpecblgaa.Word Go.Proofs.Ytbbompmpecblgaa.WordHas Go.Proofs.Ytbbompmpecblgaa.Shapes
set_option linter.unusedVariables false
set_option linter.unusedSimpArgs false

/-! The plain side. -/
theorem at_nat {f : Fo} {i : Nat} (hi : i < f.length) : at_ f (i : Int) = f[i] := by
  unfold at_
  rw [if_pos (by omega), Int.toNat_natCast, List.getD_eq_getElem?_getD, List.getElem?_eq_getElem hi]
  rfl
theorem isNode_iff (f : Fo) (k : Int) : isNode f k = true ↔ 0 ≤ k ∧ k < f.length := by unfold isNode; simp
theorem kid_bad {f : Fo} {id : Nat} {n : Nd} {j : Nat} (hj : j < n.kids.length) (h : isNode f n.kids[j] = false ∨ (at_ f n.kids[j]).parent ≠ id) : kidsB f id n = false := by
  unfold kidsB
  rw [Bool.and_eq_false_iff]
  left
  rw [List.all_eq_false]
  refine ⟨n.kids[j], List.getElem_mem _, ?_⟩
  rcases h with h | h
  · rw [h]; simp
  · rw [decide_eq_false h]; simp
theorem kid_bad0 {f : Fo} {n : Nd} {j : Nat} (hj : j < n.kids.length) (h : (at_ f n.kids[j]).kind = 2 ∨ 2 ≤ elems f (n.kids.take (j + 1))) : kidsB f 0 n = false := by
  unfold kidsB
  rw [Bool.and_eq_false_iff]
  right
  rw [Bool.or_eq_false_iff]
  refine ⟨by simp, ?_⟩
  rw [Bool.and_eq_false_iff]
  rcases h with h | h
  · left
    rw [List.all_eq_false]
    exact ⟨n.kids[j], List.getElem_mem _, by rw [h]; simp⟩
  · right
    rw [decide_eq_false_iff_not]
    have : elems f (n.kids.take (j + 1)) ≤ elems f n.kids := by
      unfold elems
      conv => rhs; rw [← List.take_append_drop (j + 1) n.kids]
      rw [List.countP_append]; omega
    omega
/-- What is known of the kids up to j. -/
def KidsUp (f : Fo) (id : Nat) (l : List Int) (j : Nat) : Prop :=
  (∀ k ∈ l.take j, isNode f k = true ∧ (at_ f k).parent = id) ∧ (id = 0 → (∀ k ∈ l.take j, (at_ f k).kind ≠ 2) ∧ elems f (l.take j) ≤ 1)
theorem KidsUp.zero (f : Fo) (id : Nat) (l : List Int) : KidsUp f id l 0 := ⟨by simp, fun _ => ⟨by simp, by simp [elems]⟩⟩
theorem KidsUp.all {f : Fo} {id : Nat} {n : Nd} (h : KidsUp f id n.kids n.kids.length) : kidsB f id n = true := by
  obtain ⟨h1, h2⟩ := h
  rw [List.take_length] at h1 h2
  unfold kidsB
  rw [Bool.and_eq_true, List.all_eq_true]
  refine ⟨fun k hk => by rw [(h1 k hk).1, decide_eq_true (h1 k hk).2]; rfl, ?_⟩
  by_cases h0 : id = 0
  · obtain ⟨h3, h4⟩ := h2 h0
    rw [List.all_eq_true.2 (fun k hk => by simpa using h3 k hk), decide_eq_true h4]
    simp
  · simp [h0]
theorem elems_succ {f : Fo} {l : List Int} {j : Nat} (hj : j < l.length) : elems f (l.take (j + 1)) = elems f (l.take j) + if (at_ f l[j]).kind = 1 then 1 else 0 := by
  unfold elems
  rw [List.take_succ_eq_append_getElem hj, List.countP_append, List.countP_singleton]
  simp
theorem KidsUp.succ {f : Fo} {id : Nat} {l : List Int} {j : Nat} (h : KidsUp f id l j) (hj : j < l.length) (h1 : isNode f l[j] = true) (h2 : (at_ f l[j]).parent = id) (h3 : id = 0 → (at_ f l[j]).kind ≠ 2 ∧ elems f (l.take (j + 1)) ≤ 1) : KidsUp f id l (j + 1) := by
  rw [KidsUp, List.take_succ_eq_append_getElem hj]
  refine ⟨fun k hk => ?_, fun h0 => ⟨fun k hk => ?_, by rw [← List.take_succ_eq_append_getElem hj]; exact (h3 h0).2⟩⟩
  · rcases List.mem_append.1 hk with hk | hk
    · exact h.1 k hk
    · simp at hk; subst hk; exact ⟨h1, h2⟩
  · rcases List.mem_append.1 hk with hk | hk
    · exact (h.2 h0).1 k hk
    · simp at hk; subst hk; exact (h3 h0).1
theorem fam_bad1 {f : Fo} {id : Nat} (hi : id < f.length) (h : kidsB f id f[id] = false) : familyB f = false := by
  unfold familyB
  rw [Bool.and_eq_false_iff]
  left
  rw [List.all_eq_false]
  exact ⟨id, List.mem_range.2 hi, by rw [at_nat hi, h]; simp⟩
theorem fam_bad2 {f : Fo} {id : Nat} (hi : id < f.length) (h : parentB f id f[id] = false) : familyB f = false := by
  unfold familyB
  rw [Bool.and_eq_false_iff]
  right
  rw [List.all_eq_false]
  exact ⟨id, List.mem_range.2 hi, by rw [at_nat hi, h]; simp⟩
theorem fam_good {f : Fo} (h1 : ∀ id (hi : id < f.length), kidsB f id f[id] = true) (h2 : ∀ id (hi : id < f.length), parentB f id f[id] = true) : familyB f = true := by
  unfold familyB
  rw [Bool.and_eq_true, List.all_eq_true, List.all_eq_true]
  exact ⟨fun id hi => by rw [List.mem_range] at hi; rw [at_nat hi]; exact h1 id hi, fun id hi => by rw [List.mem_range] at hi; rw [at_nat hi]; exact h2 id hi⟩
/-- How often i was told as a kid, when the walk is at the j-th kid of node id. -/
def told (f : Fo) (id : Nat) (l : List Int) (i : Nat) : Nat := known (f.take id) i + l.count (i : Int)
theorem told_next {f : Fo} {id : Nat} (hi : id < f.length) (i : Nat) : told f id f[id].kids i = told f (id + 1) [] i := by
  unfold told known
  rw [List.take_succ_eq_append_getElem hi, List.map_append, List.sum_append]
  simp
theorem told_snoc (f : Fo) (id : Nat) (l : List Int) (x : Nat) (i : Nat) : told f id (l ++ [(x : Int)]) i = told f id l i + if x = i then 1 else 0 := by
  unfold told
  rw [List.count_append]
  by_cases h : x = i
  · subst h; simp; omega
  · rw [if_neg h]
    have : [(x : Int)].count (i : Int) = 0 := List.count_eq_zero_of_not_mem (by simp; omega)
    omega
theorem told_le {f : Fo} {M : Nat} (hk : ∀ n ∈ f, n.kids.length ≤ M) {id : Nat} (l : List Int) (hl : l.length ≤ M) (i : Nat) (hid : id ≤ f.length) : told f id l i ≤ (id + 1) * M := by
  unfold told known
  have h1 : ∀ (g : Fo), (∀ n ∈ g, n.kids.length ≤ M) → (g.map (fun n => n.kids.count (i : Int))).sum ≤ g.length * M := by
    intro g
    induction g with
    | nil => intro _; simp
    | cons n g ih =>
      intro h
      rw [List.map_cons, List.sum_cons, List.length_cons, Nat.add_mul]
      have := ih (fun n hn => h n (by simp [hn]))
      have := h n (by simp)
      have := List.count_le_length (a := (i : Int)) (l := n.kids)
      omega
  have h2 := h1 (f.take id) (fun n hn => hk n (List.mem_of_mem_take hn))
  have h3 : (f.take id).length = id := by simp; omega
  rw [h3] at h2
  have := List.count_le_length (a := (i : Int)) (l := l)
  rw [Nat.add_mul]
  omega
/-- A row of counts. -/
def cRow (n : Nat) (c : Nat → Nat) : List Value := (List.range n).map (fun i => Value.int .i64 (c i : Nat))
theorem cRow_length (n : Nat) (c : Nat → Nat) : (cRow n c).length = n := by simp [cRow]
theorem cRow_get {n : Nat} {c : Nat → Nat} {i : Nat} (hi : i < n) : (cRow n c)[i]? = some (Value.int .i64 (c i : Nat)) := by
  simp [cRow, hi]
theorem cRow_set {n : Nat} {c c' : Nat → Nat} {i : Nat} (hi : i < n) {u : Value} (hu : u = Value.int .i64 (c' i : Nat)) (hc : ∀ j, j ≠ i → c' j = c j) : (cRow n c).set i u = cRow n c' := by
  apply List.ext_getElem?
  intro j
  rw [List.getElem?_set]
  by_cases hj : i = j
  · subst hj
    rw [if_pos rfl, if_pos (by rw [cRow_length]; exact hi), cRow_get hi, hu]
  · rw [if_neg hj]
    by_cases hjn : j < n
    · rw [cRow_get hjn, cRow_get hjn, hc j (fun e => hj e.symm)]
    · rw [List.getElem?_eq_none (by rw [cRow_length]; omega), List.getElem?_eq_none (by rw [cRow_length]; omega)]
theorem cRow_congr {n : Nat} {c c' : Nat → Nat} (h : ∀ j, c j = c' j) : cRow n c = cRow n c' := by rw [show c = c' from funext h]

/-! The memory. -/
theorem node_at {B : Nat} {w : World} {A : Option Addr} {n c : Nat} {f : Fo} (h : RdF B w (.slice A n c) f) {i : Nat} (hi : i < f.length) :
    ∃ (b o : Nat) (Aa : Option Addr) (ca : Nat) (Ak : Option Addr) (ck : Nat), A = some ⟨b, o, none⟩ ∧ b < B ∧ w.cell? ⟨b, o + i * 6, none⟩ = some (.int .i64 f[i].kind) ∧ w.cell? ⟨b, o + i * 6 + 1, none⟩ = some (.string f[i].name) ∧ w.cell? ⟨b, o + i * 6 + 2, none⟩ = some (.string f[i].text) ∧
      w.cell? ⟨b, o + i * 6 + 3, none⟩ = some (.slice Aa f[i].attrs.length ca) ∧ w.cell? ⟨b, o + i * 6 + 4, none⟩ = some (.int .i64 f[i].parent) ∧ w.cell? ⟨b, o + i * 6 + 5, none⟩ = some (.slice Ak f[i].kids.length ck) ∧
      RdL attrE 2 B w (.slice Aa f[i].attrs.length ca) f[i].attrs ∧ RdL (intE .i64) 1 B w (.slice Ak f[i].kids.length ck) f[i].kids ∧ f[i].attrs.length ≤ ca ∧ ca ≤ maxLen ∧ f[i].kids.length ≤ ck ∧ ck ≤ maxLen ∧
      f[i].name.size ≤ maxLen ∧ f[i].text.size ≤ maxLen ∧ (Lit.int .i64 f[i].kind).wf = true ∧ (Lit.int .i64 f[i].parent).wf = true := by
  obtain ⟨b, o, cs, e, hlt, hl, hc, va, vk, rfl, ha, hk, m1, m2, m3, m4⟩ := h.at_ hi
  obtain ⟨Aa, ca, rfl, p1, p2, ha'⟩ := ha.form
  obtain ⟨Ak, ck, rfl, p3, p4, hk'⟩ := hk.form
  exact ⟨b, o, Aa, ca, Ak, ck, e, hlt, hc 0 _ rfl, hc 1 _ rfl, hc 2 _ rfl, hc 3 _ rfl, hc 4 _ rfl, hc 5 _ rfl, ha', hk', p1, p2, p3, p4, m1, m2, m3, m4⟩
theorem info_int : (Try.prog.info? 3).map (fun i => (i.zero, i.size, i.bytes)) = some (some (.int .i64 0), 1, 8) := by kernel_rfl
theorem made_row (n : Nat) : (madeCells #[Value.int .i64 0] n).toList = cRow n (fun _ => 0) := by
  rw [toList_madeCells_one]
  apply List.ext_getElem?
  intro i
  by_cases hi : i < n
  · rw [cRow_get hi]; simp [hi]
  · rw [List.getElem?_eq_none (by simp; omega), List.getElem?_eq_none (by rw [cRow_length]; omega)]
set_option maxRecDepth 100000 in
set_option maxHeartbeats 8000000 in
theorem family_calls (w : World) (v : Value) (f : Fo) (h : RdF w.heap.size w v f) (hf : f.length ≤ 60) (hkm : ∀ n ∈ f, n.kids.length ≤ 1000) :
    Calls Try.prog 66 #[v] w fun e w' => e = .returned (.bool (familyB f)) ∧ Below w.heap.size w w' := by
  have HR := Lib.hid (fun w' hb => h.below nodeE_keeps (w' := w') hb (Nat.le_refl _))
  obtain ⟨A0, c0, rfl, hl0, hc0, _⟩ := h.form
  simp only [maxLen] at hc0
  have hmk := fun W => run_make_row' (P := Try.prog) 40 3 (.int .i64 0) 8 Try.underlying40 info_int rfl .i64 .i64 f.length (by omega) (by omega) W
  clear h
  go_enter Try.func66, Try.ntmps66
  go_wp2
  clear hmk
  have hown0 : (w.alloc (.cells (madeCells #[.int .i64 0] f.length) 3)).ownsRow w.heap.size 3 1 (.slice (some ⟨w.heap.size, 0, none⟩) f.length f.length) f.length (cRow f.length (told f 0 [])) := by
    have := World.ownsRow_lit (base := w.heap.size) (e := 3) (size := 1) w (madeCells #[.int .i64 0] f.length) f.length (Nat.le_refl _) (by simp only [maxLen]; omega) (by rw [size_madeCells]; omega)
    rw [made_row] at this
    rw [cRow_congr (c' := fun _ => 0) (fun j => by simp [told, known])]
    exact this
  have hb0 := (Below.refl w.heap.size w).alloc (Nat.le_refl _) (.cells (madeCells #[.int .i64 0] f.length) 3)
  have Hown0 := Lib.hid hown0; have Hb0 := Lib.hid hb0; have Hkm := Lib.hid hkm
  clear hown0 hb0 hkm
  go_loopw [16] (fun i wr => ∃ id : Nat, id ≤ f.length ∧ i = .int .i64 id ∧ wr.ownsRow w.heap.size 3 1 (.slice (some ⟨w.heap.size, 0, none⟩) f.length f.length) f.length (cRow f.length (told f id [])) ∧ Below w.heap.size w wr ∧ ∀ j (hj : j < f.length), j < id → kidsB f j f[j] = true) (fun i _ => f.length - (intOf i).toNat)
  case atStart => exact ⟨0, Nat.zero_le _, rfl, Hown0.out, Hb0.out, fun j hj h => by omega⟩
  case round =>
    obtain ⟨wo, hwo⟩ : ∃ wo, wo = wr := ⟨_, rfl⟩
    subst hwo
    obtain ⟨id, hid, rfl, h1, h2, h3⟩ := hrel
    by_cases hlt : id < f.length
    · obtain ⟨b, o, Aa, ca, Ak, ck, rfl, hbl, g0, g1, g2, g3, g4, g5, ra, rk, la, lca, lk, lck, m1, m2, m3, m4⟩ := node_at (HR.out _ h2) hlt
      have hkl := Hkm.out f[id] (List.getElem_mem _)
      have hbx := h2.alloc h2.size (.cells #[.int .i64 f[id].kind, .string f[id].name, .string f[id].text, .slice Aa f[id].attrs.length ca, .int .i64 f[id].parent, .slice Ak f[id].kids.length ck] 45)
      have hox := own_keep h1 (w' := wo.alloc (.cells #[.int .i64 f[id].kind, .string f[id].name, .string f[id].text, .slice Aa f[id].attrs.length ca, .int .i64 f[id].parent, .slice Ak f[id].kids.length ck] 45)) (fun g hg => Below.heap_alloc _ _ _ (h1.lt g hg).2)
      have H1 := Lib.hid h1; have H2 := Lib.hid h2; have H3 := Lib.hid h3; have Hra := Lib.hid ra; have Hrk := Lib.hid rk; have Hbx := Lib.hid hbx; have Hox := Lib.hid hox
      simp only [maxLen] at lck
      clear h1 h2 h3 ra rk hbx hox m1 m2 m3 m4
      go_wp2
      clear g0 g1 g2 g3 g4 g5
      have hnx : ∀ (wz : World) (j : Nat), j = f[id].kids.length → wz.ownsRow w.heap.size 3 1 (.slice (some ⟨w.heap.size, 0, none⟩) f.length f.length) f.length (cRow f.length (told f id (f[id].kids.take j))) → wz.ownsRow w.heap.size 3 1 (.slice (some ⟨w.heap.size, 0, none⟩) f.length f.length) f.length (cRow f.length (told f (id + 1) [])) := fun wz j hj h => by
        rw [hj, List.take_length, cRow_congr (c' := told f (id + 1) []) (fun i => told_next hlt i)] at h
        exact h
      have Hnx := Lib.hid hnx; clear hnx
      go_loopw [6, 24] (fun e i wr => ∃ j : Nat, j ≤ f[id].kids.length ∧ i = .int .i64 j ∧ e = .int .i64 (elems f (f[id].kids.take j) : Nat) ∧ wr.ownsRow w.heap.size 3 1 (.slice (some ⟨w.heap.size, 0, none⟩) f.length f.length) f.length (cRow f.length (told f id (f[id].kids.take j))) ∧ Below w.heap.size wo wr ∧ KidsUp f id f[id].kids j) (fun _ i _ => f[id].kids.length - (intOf i).toNat)
      case atStart => exact ⟨0, Nat.zero_le _, rfl, rfl, Hox.out, (Below.refl _ _).alloc H2.out.size _, KidsUp.zero _ _ _⟩
      case round =>
        obtain ⟨j, hj, rfl, rfl, h1, h2, h3⟩ := hrel
        by_cases hjl : j < f[id].kids.length
        · obtain ⟨bk, ok, rfl, hbk, gk, hwf⟩ := intE_at (Hrk.out.keep (intE_keeps _) h2 (Nat.le_refl _)) hjl
          have hW : Below w.heap.size w wr := H2.out.trans h2
          have hbad := kid_bad (f := f) (id := id) (n := f[id]) hjl
          have hbad0 := kid_bad0 (f := f) (n := f[id]) hjl
          have hsucc := h3.succ hjl
          have hel := elems_succ (f := f) hjl
          have hell : elems f (f[id].kids.take j) ≤ j := Nat.le_trans List.countP_le_length (List.length_take_le _ _)
          have htk := List.take_succ_eq_append_getElem hjl
          by_cases hneg : f[id].kids[j] < 0
          · have hff := fam_bad1 hlt (hbad (.inl (by rw [← Bool.not_eq_true, isNode_iff]; omega)))
            generalize f[id].kids[j] = x at *
            have Hff := Lib.hid hff; have HW := Lib.hid hW
            clear h1 h2 h3 hbad hbad0 hsucc hel hff hW htk hwf
            go_wp2
            go_ret
            exact ⟨ret_bool Hff.out.symm, HW.out⟩
          · by_cases hbig : (f.length : Int) ≤ f[id].kids[j]
            · have hff := fam_bad1 hlt (hbad (.inl (by rw [← Bool.not_eq_true, isNode_iff]; omega)))
              generalize f[id].kids[j] = x at *
              have Hff := Lib.hid hff; have HW := Lib.hid hW
              clear h1 h2 h3 hbad hbad0 hsucc hel hff hW htk hwf
              go_wp2
              go_ret
              exact ⟨ret_bool Hff.out.symm, HW.out⟩
            · obtain ⟨x, hx⟩ : ∃ x : Nat, f[id].kids[j] = x := ⟨f[id].kids[j].toNat, by omega⟩
              have hxl : x < f.length := by omega
              rw [hx] at gk hbad hbad0 hsucc hel htk
              rw [at_nat hxl] at hbad hbad0 hsucc hel
              obtain ⟨b', o', _, _, _, _, he, _, n0, _, _, _, n4, _⟩ := node_at (HR.out _ hW) hxl
              simp only [Option.some.injEq, Addr.mk.injEq, and_true] at he
              obtain ⟨rfl, rfl⟩ := he
              generalize hkd : f[x].kind = kd at *
              generalize hpr : f[x].parent = pr at *
              clear hneg hbig
              have e1 : (kd == 1) = decide (kd = 1) := rfl
              have e2 : (kd == 2) = decide (kd = 2) := rfl
              by_cases hpi : pr = (id : Int)
              case neg =>
                have hff := fam_bad1 hlt (hbad (.inr hpi))
                have hpb : (pr == (id : Int)) = false := by rw [beq_eq_false_iff_ne]; exact hpi
                have hpb2 : (pr != (id : Int)) = true := by rw [bne_iff_ne]; exact hpi
                have Hff := Lib.hid hff; have HW := Lib.hid hW
                clear h1 h2 h3 hbad hbad0 hsucc hel hff hW htk hwf e1 e2 hpi
                go_wp2
                go_ret
                exact ⟨ret_bool Hff.out.symm, HW.out⟩
              case pos =>
                subst hpi
                have hcl := h1.cellAt x (by omega)
                rw [cRow_get hxl] at hcl
                have hfz := h1.frozenAt x
                have htb := told_le Hkm.out (id := id) (f[id].kids.take j) (by rw [List.length_take]; omega) x hid
                have htn : told f id (f[id].kids.take j) x + 1 = told f id (f[id].kids.take (j + 1)) x := by rw [htk, told_snoc, if_pos rfl]
                have hst : ∀ u, u = Value.int .i64 ((told f id (f[id].kids.take j) x : Int) + 1) → (wr.setCell ⟨w.heap.size, x, none⟩ u).ownsRow w.heap.size 3 1 (.slice (some ⟨w.heap.size, 0, none⟩) f.length f.length) f.length (cRow f.length (told f id (f[id].kids.take (j + 1)))) := fun u hu => by
                  have := (h1.stored x u).1
                  rwa [cRow_set hxl (c' := told f id (f[id].kids.take (j + 1))) (by rw [hu, ← htn]; rfl) (fun i hi => by rw [htk, told_snoc, if_neg (fun e => hi e.symm)]; rfl)] at this
                have hbs : ∀ u, Below w.heap.size wo (wr.setCell ⟨w.heap.size, x, none⟩ u) := fun u => h2.setCell (p := ⟨w.heap.size, x, none⟩) (Nat.le_refl _) u
                have n0' : ∀ u, (wr.setCell ⟨w.heap.size, x, none⟩ u).cell? ⟨b, o + x * 6, none⟩ = some (.int .i64 kd) := fun u => (World.cell?_of_block (set_other (by show b ≠ w.heap.size; omega))).trans n0
                generalize told f id (f[id].kids.take j) x = tv at *
                have hto : (id + 1) * 1000 ≤ 61000 := by omega
                have hpb2 : ((id : Int) != (id : Int)) = false := by simp
                have Hst := Lib.hid hst; have Hbs := Lib.hid hbs
                have H1 := Lib.hid h1; have H3 := Lib.hid h3
                clear h1 h2 h3 hbad htk hwf hst hbs htn
                by_cases h0 : id = 0
                · have hel1 := (H3.out.2 h0).2
                  have hid0 : ((id : Int) == 0) = true := by rw [h0]; rfl
                  have hbad0 : kd = 2 ∨ 2 ≤ elems f (f[id].kids.take (j + 1)) → kidsB f id f[id] = false := by subst h0; exact hbad0
                  have H0 := Lib.hid h0; clear h0
                  by_cases hk2 : kd = 2
                  · subst hk2
                    have hff := fam_bad1 hlt (hbad0 (.inl rfl))
                    have Hff := Lib.hid hff; have HW := Lib.hid hW
                    clear hbad0 hsucc hel hel1 hff hW e1 e2
                    go_wp2
                    go_ret
                    exact ⟨ret_bool Hff.out.symm, ((Below.refl w.heap.size w).trans H2.out).trans (Hbs.out _)⟩
                  · rw [decide_eq_false hk2] at e2
                    by_cases hk1 : kd = 1
                    · subst hk1
                      rw [if_pos rfl] at hel
                      by_cases he0 : elems f (f[id].kids.take j) = 0
                      · have hk1 := hsucc (by rw [isNode_iff]; omega) rfl (fun _ => ⟨by decide, by omega⟩)
                        have Hk1 := Lib.hid hk1; have Hel := Lib.hid hel
                        clear hbad0 hsucc hel hel1 hW e1 e2 hk1
                        rw [he0] at *
                        go_wp2
                        go_roundw
                        case rel => exact ⟨j + 1, by omega, by go_num, by rw [Hel.out]; rfl, Hst.out _ rfl, Hbs.out _, Hk1.out⟩
                        case measure => simp [intOf]; omega
                      · have hff := fam_bad1 hlt (hbad0 (.inr (by omega)))
                        have Hff := Lib.hid hff
                        clear hbad0 hsucc hel hff hW e1 e2
                        generalize elems f (f[id].kids.take j) = ev at *
                        go_wp2
                        go_ret
                        exact ⟨ret_bool Hff.out.symm, ((Below.refl w.heap.size w).trans H2.out).trans (Hbs.out _)⟩
                    · rw [decide_eq_false hk1] at e1
                      rw [if_neg hk1, Nat.add_zero] at hel
                      have hk1 := hsucc (by rw [isNode_iff]; omega) rfl (fun _ => ⟨hk2, by omega⟩)
                      have Hk1 := Lib.hid hk1; have Hel := Lib.hid hel
                      clear hbad0 hsucc hel hW hk1 hk2
                      generalize hev : elems f (f[id].kids.take j) = ev at *
                      have Hev := Lib.hid hev; clear hev
                      go_wp2
                      go_roundw
                      case rel => exact ⟨j + 1, by omega, by go_num, by first | (rw [Hel.out]; done) | (rw [Hel.out]; rfl), Hst.out _ rfl, Hbs.out _, Hk1.out⟩
                      case measure => simp [intOf]; omega
                · have hid0 : ((id : Int) == 0) = false := by rw [beq_eq_false_iff_ne]; omega
                  have hk1 := hsucc (by rw [isNode_iff]; omega) rfl (fun h => absurd h h0)
                  have Hk1 := Lib.hid hk1; clear hk1
                  by_cases hk1 : kd = 1
                  · subst hk1
                    rw [if_pos rfl] at hel
                    have Hel := Lib.hid hel
                    clear hbad0 hsucc hel hW e1 e2
                    go_wp2
                    go_roundw
                    case rel => exact ⟨j + 1, by omega, by go_num, by rw [Hel.out]; rfl, Hst.out _ rfl, Hbs.out _, Hk1.out⟩
                    case measure => simp [intOf]; omega
                  · rw [decide_eq_false hk1] at e1
                    rw [if_neg hk1, Nat.add_zero] at hel
                    have Hel := Lib.hid hel
                    clear hbad0 hsucc hel hW e2 hk1
                    go_wp2
                    go_roundw
                    case rel => exact ⟨j + 1, by omega, by go_num, by first | (rw [Hel.out]; done) | (rw [Hel.out]; rfl), Hst.out _ rfl, Hbs.out _, Hk1.out⟩
                    case measure => simp [intOf]; omega
        · obtain rfl : j = f[id].kids.length := by omega
          have H1 := Lib.hid (Hnx.out wr _ rfl h1); have H2 := Lib.hid (H2.out.trans h2)
          have hall := h3.all
          have Hall : Hid (∀ j (hj : j < f.length), j < id + 1 → kidsB f j f[j] = true) := Lib.hid (fun j hj hjk => by
            by_cases e : j = id
            · subst e; exact hall
            · exact H3.out j hj (by omega))
          clear h1 h2 h3 hall
          go_wp2
          go_roundw
          case rel => exact ⟨id + 1, by omega, by go_num, H1.out, H2.out, Hall.out⟩
          case measure => simp [intOf]; omega
    · obtain rfl : id = f.length := by omega
      have hkn : ∀ i : Nat, told f f.length [] i = known f i := fun i => by simp [told]
      have h1' := h1
      rw [cRow_congr (c' := fun i : Nat => known f i) hkn] at h1'
      have H1 := Lib.hid h1'; have H2 := Lib.hid h2; have H3 := Lib.hid h3
      clear h1 h1' h2 h3 hkn
      go_wp2
      go_loopw [77] (fun i wr => ∃ id : Nat, id ≤ f.length ∧ i = .int .i64 id ∧ wr.ownsRow w.heap.size 3 1 (.slice (some ⟨w.heap.size, 0, none⟩) f.length f.length) f.length (cRow f.length (fun i : Nat => known f i)) ∧ Below w.heap.size w wr ∧ ∀ j (hj : j < f.length), j < id → parentB f j f[j] = true) (fun i _ => f.length - (intOf i).toNat)
      case atStart => exact ⟨0, Nat.zero_le _, rfl, H1.out, H2.out, fun j hj h => by omega⟩
      case round =>
        obtain ⟨id, hid, rfl, h1, h2, h3⟩ := hrel
        by_cases hlt : id < f.length
        · obtain ⟨b, o, Aa, ca, Ak, ck, rfl, hbl, g0, g1, g2, g3, g4, g5, ra, rk, la, lca, lk, lck, m1, m2, m3, m4⟩ := node_at (HR.out _ h2) hlt
          have hbx := h2.alloc h2.size (.cells #[.int .i64 f[id].kind, .string f[id].name, .string f[id].text, .slice Aa f[id].attrs.length ca, .int .i64 f[id].parent, .slice Ak f[id].kids.length ck] 45)
          have hox := own_keep h1 (w' := wr.alloc (.cells #[.int .i64 f[id].kind, .string f[id].name, .string f[id].text, .slice Aa f[id].attrs.length ca, .int .i64 f[id].parent, .slice Ak f[id].kids.length ck] 45)) (fun g hg => Below.heap_alloc _ _ _ (h1.lt g hg).2)
          have hcl := hox.cellAt id (by omega)
          rw [cRow_get hlt] at hcl
          have hbadp : parentB f id f[id] = false → familyB f = false := fam_bad2 hlt
          have hgoodp : parentB f id f[id] = true → ∀ j (hj : j < f.length), j < id + 1 → parentB f j f[j] = true := fun h j hj hjk => by
            by_cases e : j = id
            · subst e; exact h
            · exact h3 j hj (by omega)
          have hpd : parentB f id f[id] = (decide (-1 ≤ f[id].parent) && decide (f[id].parent < f.length) && (decide (f[id].parent < 0) || decide (known f id = 1))) := rfl
          rw [hpd] at hbadp hgoodp
          have Hbx := Lib.hid hbx; have Hox := Lib.hid hox
          clear h1 h2 h3 ra rk hbx hox m1 m2 m3 m4 hpd
          generalize hkc : known f id = kc at *
          have ek : ((kc : Int) == 1) = decide (kc = 1) := by rw [Bool.eq_iff_iff]; simp; omega
          have ek2 : ((kc : Int) != 1) = !decide (kc = 1) := by rw [← ek]; rfl
          have hcase : (f[id].parent < -1) ∨ ((f.length : Int) ≤ f[id].parent) ∨ (f[id].parent = -1) ∨ (0 ≤ f[id].parent ∧ f[id].parent < f.length ∧ kc ≠ 1) ∨ (0 ≤ f[id].parent ∧ f[id].parent < f.length ∧ kc = 1) := by omega
          generalize f[id].parent = pr at *
          rcases hcase with h | h | h | ⟨h, h', hc⟩ | ⟨h, h', hc⟩
          · have Hff := Lib.hid (hbadp (by rw [decide_eq_false (show ¬ -1 ≤ pr by omega)]; rfl))
            clear hbadp hgoodp ek ek2
            go_wp2
            go_ret
            exact ⟨ret_bool Hff.out.symm, Hbx.out⟩
          · have Hff := Lib.hid (hbadp (by rw [decide_eq_false (show ¬ pr < f.length by omega)]; simp))
            clear hbadp hgoodp ek ek2
            go_wp2
            go_ret
            exact ⟨ret_bool Hff.out.symm, Hbx.out⟩
          · have Hg := Lib.hid (hgoodp (by rw [decide_eq_true (show -1 ≤ pr by omega), decide_eq_true (show pr < f.length by omega), decide_eq_true (show pr < 0 by omega)]; rfl))
            clear hbadp hgoodp ek ek2
            subst h
            go_wp2
            go_roundw
            case rel => exact ⟨id + 1, by omega, by go_num, Hox.out, Hbx.out, Hg.out⟩
            case measure => simp [intOf]; omega
          · have Hff := Lib.hid (hbadp (by rw [decide_eq_false (show ¬ pr < 0 by omega), decide_eq_false hc]; simp))
            rw [decide_eq_false hc] at ek ek2
            simp only [Bool.not_false] at ek2
            clear hbadp hgoodp
            go_wp2
            go_ret
            exact ⟨ret_bool Hff.out.symm, Hbx.out⟩
          · have Hg := Lib.hid (hgoodp (by rw [decide_eq_true (show -1 ≤ pr by omega), decide_eq_true h', decide_eq_true hc]; simp))
            subst hc
            simp only [decide_true, Bool.not_true] at ek ek2
            clear hbadp hgoodp
            go_wp2
            go_roundw
            case rel => exact ⟨id + 1, by omega, by go_num, Hox.out, Hbx.out, Hg.out⟩
            case measure => simp [intOf]; omega
        · obtain rfl : id = f.length := by omega
          have hff := fam_good (fun j hj => H3.out j hj hj) (fun j hj => h3 j hj hj)
          have Hff := Lib.hid hff; have H22 := Lib.hid h2
          clear h1 h2 h3 hff
          go_wp2
          go_ret
          exact ⟨ret_bool Hff.out.symm, H22.out⟩
end Go.Proofs.Ytbbompmpecblgaa.FFam
end
section
/- slices.Backward of a list of numbers. -/
namespace Go.Proofs.Ytbbompmpecblgaa.BackIt
open Go Go.RowKit Go.Shelf Go.Proofs.Ytbbompmpecblgaa.WS Go.Proofs.Ytbbompmpecblgaa.Seq Go.Proofs.Ytbbompmpecblgaa.SeqN Go.Proofs.Ytbbompmpecblgaa.Mem Go.Proofs.Ytbbompmpecblgaa.Rd
set_option linter.unusedVariables false
set_option linter.unusedSimpArgs false
theorem wide_fn (f : FuncId) : Fence.wide.fn f = True := rfl
theorem wide_depth : Fence.wide.depth = none := rfl
theorem wide_round : Fence.wide.round = none := rfl
attribute [local go_sem] Oper.semAt_some wide_fn wide_depth wide_round

/-- What Backward hands out. -/
def backE (l : List Int) : List (Array Value) := (List.range l.length).map (fun m => #[.int .i64 ((l.length - 1 - m : Nat) : Int), .int .i64 (l.getD (l.length - 1 - m) 0)])
theorem backE_length (l : List Int) : (backE l).length = l.length := by simp [backE]
theorem backE_get (l : List Int) {m : Nat} (hm : m < (backE l).length) : (backE l)[m] = #[.int .i64 ((l.length - 1 - m : Nat) : Int), .int .i64 (l.getD (l.length - 1 - m) 0)] := by simp [backE]
theorem below_off {X : Nat → Prop} {W W' : World} {N0 : Nat} (h : Off X W W') (hN : N0 ≤ W.heap.size) (hX : ∀ b, X b → N0 ≤ b) : Below N0 W W' := h.toBelow hN hX
set_option maxHeartbeats 800000 in
theorem backward_seq (kids : List Int) (hk : kids.length ≤ 1000) (N0 B : Nat) (hB : N0 ≤ B) (v : Value) :
    SeqCn Try.prog 140 #[.pointer (some ⟨B, 0, none⟩)] (backE kids) (fun _ => False) (fun b => b < N0 ∨ b = B) (fun W => W.heap[B]? = some (.cells #[v] 40 (0, 0)) ∧ RdL (intE .i64) 1 N0 W v kids ∧ N0 ≤ W.heap.size) := by
  intro l J Jx X W hW hJ hJx hX h0 hY
  obtain ⟨hbox, hrd, hN⟩ := hW
  obtain ⟨A0, c0, rfl, hl0, hc0, _⟩ := hrd.form
  simp only [maxLen] at hc0
  refine callsIn_of_wp Try.func140 rfl trivial ?_ rfl
  simp only [Try.ntmps140, List.size_toArray, List.length_cons, List.length_nil, Nat.reduceAdd, Nat.reduceSub, Array.replicate_succ, Array.replicate_zero, List.push_toArray, List.append_toArray, List.nil_append, List.cons_append]
  have hXN : ∀ b, X b → N0 ≤ b := fun b hb => by have := (hX b hb).2; omega
  have hkeep : ∀ W', Off X W W' → W'.cell? ⟨B, 0, none⟩ = some (.slice A0 kids.length c0) ∧ RdL (intE .i64) 1 N0 W' (.slice A0 kids.length c0) kids := fun W' ho =>
    ⟨(World.cell?_of_block (ho.block B (lt_heap hbox) (fun h => by have := (hX B h).2; omega))).trans (cell_of hbox), hrd.keep (intE_keeps _) (below_off ho hN hXN) (Nat.le_refl _)⟩
  have c0' := (hkeep W (Off.refl _ _)).1
  have HJ := Lib.hid hJ; have HJx := Lib.hid hJx; have HX := Lib.hid hX; have HY := Lib.hid hY; have H0 := Lib.hid h0; have Hkeep := Lib.hid hkeep
  clear hJ hJx hX hY h0 hbox hrd hkeep hXN
  have hw1 : IntKind.i64.wrap ((kids.length : Int) - 1) = (kids.length : Int) - 1 := by rw [IntKind.wrap_i64]; omega
  gi_wp2
  clear c0' hw1
  gi_loopg [3] kids.length (fun g i wr => ∃ (m : Nat) (z : Int) (X' : Nat → Prop), g = kids.length - m ∧ m ≤ kids.length ∧ i = .int .i64 z ∧ Hid (z = (kids.length : Int) - 1 - m) ∧ J m X' wr ∧ Grew X W X' ∧ Off X W wr)
  case atStart => exact ⟨0, (kids.length : Int) - 1, X, rfl, Nat.zero_le _, rfl, Lib.hid (by simp), H0.out, Grew.refl _ _, Off.refl _ _⟩
  case round =>
    obtain ⟨m, z, X', hg, hm, rfl, hz, hj, hgr, hoff⟩ := hrel
    obtain ⟨c0', hr0⟩ := Hkeep.out wr hoff
    by_cases hlt : m < kids.length
    · obtain ⟨j, hjm⟩ : ∃ j : Nat, kids.length = j + 1 + m := ⟨kids.length - 1 - m, by omega⟩
      have hzj : z = (j : Int) := by rw [hz.out]; omega
      subst hzj
      have hjl : j < kids.length := by omega
      obtain ⟨b, o, rfl, hb, e1, _⟩ := intE_at hr0 hjl
      have hkE : m < (backE kids).length := by rw [backE_length]; exact hlt
      have henc : (backE kids)[m] = #[.int .i64 (j : Int), .int .i64 kids[j]] := by
        rw [backE_get, show kids.length - 1 - m = j by omega, List.getD_eq_getElem?_getD, List.getElem?_eq_getElem hjl]
        rfl
      obtain ⟨fn, tmps, assign, body, hy, hR⟩ := HY.out m X' wr hkE hj
      rw [henc] at hy
      have HR := Lib.hid hR; have Hj := Lib.hid hj; have Hgr := Lib.hid hgr; have Hoff := Lib.hid hoff; have Hjm := Lib.hid hjm
      have hjk : (j : Int) < (kids.length : Int) := by omega
      have hwj : IntKind.i64.wrap ((j : Int) - 1) = (j : Int) - 1 := by rw [IntKind.wrap_i64]; omega
      clear hR hj hgr hoff henc hr0 hjm hz
      generalize kids[j] = x at *
      gi_wp2
      refine HR.out.mono ?_
      rintro e W3 ⟨X3, hg3, ho3, h3⟩
      have hoff3 : Off X W W3 := Hoff.out.trans' ho3 (fun b hb => Hgr.out b hb)
      have hgr3 : Grew X W X3 := Hgr.out.trans hg3 Hoff.out.size
      have Hoff3 := Lib.hid hoff3; have Hgr3 := Lib.hid hgr3
      clear hoff3 hgr3 hg3 ho3
      rcases h3 with ⟨rfl, hj3⟩ | ⟨rfl, hj3⟩
      · have Hj3 := Lib.hid hj3; clear hj3
        gi_wp2
        gi_roundg (kids.length - (m + 1))
        case measure => omega
        case rel => exact ⟨m + 1, (j : Int) - 1, X3, rfl, by omega, rfl, Lib.hid (by have := Hjm.out; omega), Hj3.out, Hgr3.out, Hoff3.out⟩
      · have Hj3 := Lib.hid hj3; clear hj3
        gi_wp2
        refine bodyPost_ret (results_none rfl _ _ _) rfl ?_
        exact ⟨⟨_, rfl⟩, X3, Hgr3.out, Hoff3.out.mono (fun b _ hb => .inl hb), .inr ⟨m, hkE, Hj3.out⟩⟩
    · obtain rfl : m = kids.length := by omega
      have hz1 : z = -1 := by rw [hz.out]; omega
      subst hz1
      have Hj := Lib.hid hj; have Hgr := Lib.hid hgr; have Hoff := Lib.hid hoff
      clear hj hgr hoff hz hr0
      gi_wp2
      first | refine bodyPost_end (results_none rfl _ _ _) rfl ?_ | refine bodyPost_ret (results_none rfl _ _ _) rfl ?_
      refine ⟨⟨_, rfl⟩, X', Hgr.out, Hoff.out.mono (fun b _ hb => .inl hb), .inl ?_⟩
      rw [backE_length]
      exact Hj.out
end Go.Proofs.Ytbbompmpecblgaa.BackIt
end
section
/- As Seq; the body may also read what stands at R, which the iterator leaves alone. General: no program. Printed by seqr.py. -/
namespace Go.Proofs.Ytbbompmpecblgaa.SeqR
open Go Go.RowKit Go.Proofs.Ytbbompmpecblgaa.Seq
set_option linter.unusedVariables false

def FootR {ι : Type} (R : Nat → Prop) (J : ι → (Nat → Prop) → World → Prop) : Prop :=
  (∀ k X W W', J k X W → Off (fun b => ¬ X b ∧ ¬ R b) W W' → J k X W') ∧ (∀ k X W b, J k X W → X b → b < W.heap.size)
theorem Foot.toR {ι : Type} {R : Nat → Prop} {J : ι → (Nat → Prop) → World → Prop} (h : Foot J) : FootR R J := ⟨fun k X W W' hj ho => h.1 k X W W' hj (ho.mono (fun b _ hb => hb.1)), h.2⟩
/-- THE ITERATOR's CONTRACT: it hands out encs, one behind the other, unless it is told to stop. -/
def SeqCR (P : Program) (gf : Nat) (lb : Array Value) (encs : List Value) (Y Z R : Nat → Prop) (Wc : World → Prop) : Prop :=
  ∀ (l : Nat) (J Jx : Nat → (Nat → Prop) → World → Prop) (X : Nat → Prop) (W : World), Wc W → FootR R J → FootR R Jx → (∀ b, X b → ¬ Y b ∧ ¬ Z b) → J 0 X W →
    (∀ k X W (hk : k < encs.length), J k X W → YieldAt Fence.wide 0 P l #[encs[k]] W (RoundR X W (J (k + 1)) (Jx k))) →
    CallsIn Fence.wide 0 P gf (#[.func (.yield l) #[] #[]] ++ lb) W (SeqR X Y W (J encs.length) (fun X' W' => ∃ k, k < encs.length ∧ Jx k X' W'))

theorem SeqCR.plain {P : Program} {gf : Nat} {lb : Array Value} {encs : List Value} {Y Z R : Nat → Prop} {Wc : World → Prop} (h : SeqCR P gf lb encs Y Z R Wc) : SeqC P gf lb encs Y Z Wc :=
  fun l J Jx X W hW hJ hJx hX h0 hY => h l J Jx X W hW (Foot.toR hJ) (Foot.toR hJx) hX h0 hY

/-- THE LOOP. The assignment to the loop's variable is a plain move (a₁ k is the activation behind it). -/
theorem wpIn_rangeR {P : Program} {g : Operand} {pt : Tmp} {assign body : Code} {Q : Exit → Act → World → Prop} {a : Act} {w : World}
    {gf : Nat} {lb : Array Value} (hg : a.eval g = .func (.func gf) #[] lb) (eg : ∀ args w, (callFunc gf args).run P w = .ok (.enter gf args) w)
    {encs : List Value} {Y Z R : Nat → Prop} {Wc : World → Prop} (hseq : SeqCR P gf lb encs Y Z R Wc)
    (hWc : ∀ W, Off (fun _ => False) w W → Wc W)
    (I : Nat → (Nat → Prop) → World → Prop) (Ix : Code → Nat → (Nat → Prop) → World → Prop) (hI : FootR R I) (hIx : ∀ c, FootR R (Ix c)) (X : Nat → Prop)
    (hX : ∀ b, X b → ¬ Y b ∧ ¬ Z b) (h0 : I 0 X w) (hYZ : ∀ b, Y b ∨ Z b → b < w.heap.size) (hR : ∀ b, R b → b < w.heap.size) (a₁ : Nat → Act)
    (hassign : ∀ (l k : Nat) (hk : k < encs.length) (W : World) (K : Act → World → Prop), K (a₁ k) W →
      assign.wpIn (Fence.wide.inRound l) 0 P (Exit.then K (fun _ _ _ => False)) { tmps := a.tmps.setIfInBounds pt encs[k], defers := [] } W)
    (hbody : ∀ (l k : Nat) (hk : k < encs.length) (X : Nat → Prop) (W : World), I k X W → body.wpIn (Fence.wide.inRound l) 0 P (bodyR X W (I (k + 1)) (fun c => Ix c k)) (a₁ k) W)
    (hdone : ∀ (D : Nat) (X' : Nat → Prop) (W : World), w.heap.size ≤ D → ¬ X' D → Grew X w X' → Off (fun b => X b ∨ Y b) w W → I encs.length X' W → W.heap[D]? = some (.deferred (some [])) → Q .normal { a with defers := CollD D :: a.defers } W)
    (hstop : ∀ (D : Nat) (c : Code) (k : Nat) (X' : Nat → Prop) (W : World), k < encs.length → w.heap.size ≤ D → ¬ X' D → Grew X w X' → Off (fun b => X b ∨ Y b) w W → Ix c k X' W → W.heap[D]? = some (.deferred (some [])) →
      c.wpIn Fence.wide 0 P Q { a with defers := CollD D :: a.defers } W) :
    (Code.rangeFunc g #[pt] assign body).wpIn Fence.wide 0 P Q a w := by
  refine wpIn_rangeFunc ?_
  intro fn hfn
  obtain ⟨rec, hrec⟩ : ∃ rec : LoopState → Option Code → Loop, rec = fun st pe => { state := st, pending := pe, fn, tmps := a.tmps, params := #[pt], assign, body, defers := w.heap.size } := ⟨_, rfl⟩
  obtain ⟨W1, hW1⟩ : ∃ W1, (w.alloc (.deferred (some []))).alloc (.loop (rec .ready none)) = W1 := ⟨_, rfl⟩
  have hL1 : W1.heap[w.heap.size + 1]? = some (.loop (rec .ready none)) := by
    rw [← hW1]; have := World.alloc_heap_new (w.alloc (.deferred (some []))) (.loop (rec .ready none)); rwa [World.size_alloc] at this
  have hK1 : W1.heap[w.heap.size]? = some (.deferred (some [])) := by
    rw [← hW1]; exact (Below.heap_alloc _ _ _ (by simp)).trans (World.alloc_heap_new w _)
  have hOff1 : ∀ Y', Off Y' w W1 := fun Y' => by rw [← hW1]; exact (Off.alloc _ _ _).trans (Off.alloc _ _ _)
  have hs1 : W1.heap.size = w.heap.size + 2 := by rw [← hW1]; simp
  have hI1 : I 0 X W1 := hI.1 0 X w W1 h0 (hOff1 _)
  have hXlt : ∀ b, X b → b < w.heap.size := fun b hb => hI.2 0 X w b h0 hb
  refine ⟨w.heap.size + 1, [{ target := .collected w.heap.size, args := #[] }], W1, { target := .fn (.func gf) lb, args := #[.func (.yield (w.heap.size + 1)) #[] #[]] }, W1, gf,
    #[.func (.yield (w.heap.size + 1)) #[] #[]] ++ lb, W1, ?_, ?_, ?_, ?_, fun h => by simp [Fence.wide] at h, ?_⟩
  · rw [← hW1, hrec]; exact run_enterLoop_outer _ _ _ _ _
  · simp only [resolve, hg]
    simp [go_sem]
  · intro f' hf'; trivial
  · simp [invoke, go_sem, eg]
  · -- the two blocks of book-keeping beside the caller's own
    let Bk : (Nat → Prop) → (Nat → Prop) → Prop := fun X' X0 => ∀ b, X' b ↔ (X0 b ∨ b = w.heap.size ∨ b = w.heap.size + 1)
    let J : Nat → (Nat → Prop) → World → Prop := fun k X' W => ∃ X0, Bk X' X0 ∧ ¬ X0 w.heap.size ∧ ¬ X0 (w.heap.size + 1) ∧ Grew X w X0 ∧ I k X0 W ∧ W.heap[w.heap.size + 1]? = some (.loop (rec .ready none)) ∧ W.heap[w.heap.size]? = some (.deferred (some []))
    let Jx : Nat → (Nat → Prop) → World → Prop := fun k X' W => ∃ c X0, Bk X' X0 ∧ ¬ X0 w.heap.size ∧ ¬ X0 (w.heap.size + 1) ∧ Grew X w X0 ∧ Ix c k X0 W ∧ W.heap[w.heap.size + 1]? = some (.loop (rec .done (some c))) ∧ W.heap[w.heap.size]? = some (.deferred (some []))
    have keep : ∀ {X' X0 : Nat → Prop} {W W' : World} {o : Obj} {b : Nat}, Bk X' X0 → X' b → Off (fun b => ¬ X' b ∧ ¬ R b) W W' → W.heap[b]? = some o → W'.heap[b]? = some o :=
      fun {X' X0 W W' o b} hbk hx ho hb => (ho.block b (Array.getElem?_eq_some_iff.1 hb).1 (fun h => h.1 hx)).trans hb
    have hJ : FootR R J := by
      refine ⟨?_, ?_⟩
      · rintro k X' W W' ⟨X0, hbk, n1, n2, hgr, hi, hl, hk⟩ ho
        exact ⟨X0, hbk, n1, n2, hgr, hI.1 _ _ _ _ hi (ho.mono (fun b _ hn => ⟨fun h0 => hn.1 ((hbk b).2 (.inl h0)), hn.2⟩)), keep hbk ((hbk _).2 (.inr (.inr rfl))) ho hl, keep hbk ((hbk _).2 (.inr (.inl rfl))) ho hk⟩
      · rintro k X' W b ⟨X0, hbk, n1, n2, hgr, hi, hl, hk⟩ hb
        rcases (hbk b).1 hb with h | rfl | rfl
        · exact hI.2 _ _ _ _ hi h
        · exact (Array.getElem?_eq_some_iff.1 hk).1
        · exact (Array.getElem?_eq_some_iff.1 hl).1
    have hJx : FootR R Jx := by
      refine ⟨?_, ?_⟩
      · rintro k X' W W' ⟨c, X0, hbk, n1, n2, hgr, hi, hl, hk⟩ ho
        exact ⟨c, X0, hbk, n1, n2, hgr, (hIx c).1 _ _ _ _ hi (ho.mono (fun b _ hn => ⟨fun h0 => hn.1 ((hbk b).2 (.inl h0)), hn.2⟩)), keep hbk ((hbk _).2 (.inr (.inr rfl))) ho hl, keep hbk ((hbk _).2 (.inr (.inl rfl))) ho hk⟩
      · rintro k X' W b ⟨c, X0, hbk, n1, n2, hgr, hi, hl, hk⟩ hb
        rcases (hbk b).1 hb with h | rfl | rfl
        · exact (hIx c).2 _ _ _ _ hi h
        · exact (Array.getElem?_eq_some_iff.1 hk).1
        · exact (Array.getElem?_eq_some_iff.1 hl).1
    have hXY : ∀ b, (X b ∨ b = w.heap.size ∨ b = w.heap.size + 1) → ¬ Y b ∧ ¬ Z b := by
      rintro b (h | rfl | rfl)
      · exact hX b h
      · exact ⟨fun h => by have := hYZ _ (.inl h); omega, fun h => by have := hYZ _ (.inr h); omega⟩
      · exact ⟨fun h => by have := hYZ _ (.inl h); omega, fun h => by have := hYZ _ (.inr h); omega⟩
    refine (hseq (w.heap.size + 1) J Jx (fun b => X b ∨ b = w.heap.size ∨ b = w.heap.size + 1) W1 (hWc W1 (hOff1 _)) hJ hJx hXY ⟨X, fun b => Iff.rfl, fun h => by have := hXlt _ h; omega, fun h => by have := hXlt _ h; omega, Grew.refl _ _, hI1, hL1, hK1⟩ ?_).mono ?_
    · -- one round
      rintro k X' W hk ⟨X0, hbk, n1, n2, hgr, hi, hl, hd⟩
      have hlt : w.heap.size + 1 < W.heap.size := (Array.getElem?_eq_some_iff.1 hl).1
      have hy := run_yield (P := P) (args := #[encs[k]]) hl (by rw [hrec]; rfl)
      rw [hrec] at hy
      refine ⟨fn, _, assign, body, hy, roundIn_of_wpIn hfn ?_⟩
      have hz : ((#[pt] : Array Tmp).zip #[encs[k]]).foldl (fun t (p, v) => t.setIfInBounds p v) a.tmps = a.tmps.setIfInBounds pt encs[k] := by simp
      have ha := hassign (w.heap.size + 1) k hk W (fun a₁' w₁ => ∃ w₂, (Instr.beginRound (w.heap.size + 1)).run P w₁ = .ok () w₂ ∧ body.wpIn (Fence.wide.inRound (w.heap.size + 1)) 0 P (roundPost P (w.heap.size + 1) (RoundR X' W (J (k + 1)) (Jx k))) a₁' w₂) ?_
      · rw [← hz] at ha; exact ha
      refine ⟨_, run_beginRound hl (by rw [hrec]), ?_⟩
      have hl2 : (W.putObj (w.heap.size + 1) (.loop { rec .ready none with state := .busy })).heap[w.heap.size + 1]? = some (.loop { rec .ready none with state := .busy }) := World.putObj_heap_same hlt
      have hd2 : (W.putObj (w.heap.size + 1) (.loop { rec .ready none with state := .busy })).heap[w.heap.size]? = some (.deferred (some [])) := (World.putObj_heap_other (by omega)).trans hd
      have ho2 : Off (fun b => b = w.heap.size + 1) W (W.putObj (w.heap.size + 1) (.loop { rec .ready none with state := .busy })) := Off.putObj _ _ _ rfl
      have hi2 : I k X0 (W.putObj (w.heap.size + 1) (.loop { rec .ready none with state := .busy })) := hI.1 _ _ _ _ hi (ho2.mono (fun b _ e => ⟨fun h => n2 (e ▸ h), fun h => by have := hR b h; omega⟩))
      refine wpIn_mono (hbody _ k hk X0 _ hi2) ?_
      have fin : ∀ (jump : Option Code) (X3 : Nat → Prop) (W3 : World), Grew X0 (W.putObj (w.heap.size + 1) (.loop { rec .ready none with state := .busy })) X3 → Off X0 (W.putObj (w.heap.size + 1) (.loop { rec .ready none with state := .busy })) W3 →
          (Instr.endRound (w.heap.size + 1) jump).run P W3 = .ok (.bool jump.isNone) (W3.putObj (w.heap.size + 1) (.loop (rec (if jump.isNone then .ready else .done) jump))) ∧
          (W3.putObj (w.heap.size + 1) (.loop (rec (if jump.isNone then .ready else .done) jump))).heap[w.heap.size + 1]? = some (.loop (rec (if jump.isNone then .ready else .done) jump)) ∧
          (W3.putObj (w.heap.size + 1) (.loop (rec (if jump.isNone then .ready else .done) jump))).heap[w.heap.size]? = some (.deferred (some [])) ∧
          ¬ X3 w.heap.size ∧ ¬ X3 (w.heap.size + 1) ∧ Grew X w X3 ∧ Off X' W (W3.putObj (w.heap.size + 1) (.loop (rec (if jump.isNone then .ready else .done) jump))) ∧
          Grew X' W (fun b => X3 b ∨ b = w.heap.size ∨ b = w.heap.size + 1) ∧ Off (fun b => ¬ X3 b ∧ ¬ R b) W3 (W3.putObj (w.heap.size + 1) (.loop (rec (if jump.isNone then .ready else .done) jump))) := fun jump X3 W3 hg3 ho3 => by
        have hsz : (W.putObj (w.heap.size + 1) (.loop { rec .ready none with state := .busy })).heap.size = W.heap.size := World.putObj_size
        have hl3 := (ho3.block (w.heap.size + 1) (by rw [hsz]; omega) n2).trans hl2
        have hd3 := (ho3.block w.heap.size (by rw [hsz]; omega) n1).trans hd2
        have m1 : ¬ X3 w.heap.size := fun h => by rcases hg3 _ h with h | h; exact n1 h; rw [hsz] at h; omega
        have m2 : ¬ X3 (w.heap.size + 1) := fun h => by rcases hg3 _ h with h | h; exact n2 h; rw [hsz] at h; omega
        have hr := run_endRound (P := P) jump hl3
        rw [hrec] at hr ⊢
        refine ⟨hr, World.putObj_heap_same (Array.getElem?_eq_some_iff.1 hl3).1, (World.putObj_heap_other (by omega)).trans hd3, m1, m2, ?_, ?_, ?_, Off.putObj _ _ _ ⟨m2, fun h => by have := hR _ h; omega⟩⟩
        · exact hgr.trans (W' := W) (fun b h => by rcases hg3 b h with h | h; exact .inl h; rw [hsz] at h; exact .inr h) (by omega)
        · have t1 : Off X' W (W.putObj (w.heap.size + 1) (.loop { rec .ready none with state := .busy })) := Off.putObj _ _ _ ((hbk _).2 (.inr (.inr rfl)))
          have t2 : Off X' (W.putObj (w.heap.size + 1) (.loop { rec .ready none with state := .busy })) W3 := ho3.mono (fun b _ h => (hbk b).2 (.inl h))
          rw [hrec] at t1 t2
          exact (t1.trans t2).trans (Off.putObj _ _ _ ((hbk _).2 (.inr (.inr rfl))))
        · rintro b (h | rfl | rfl)
          · rcases hg3 b h with h | h
            · exact .inl ((hbk b).2 (.inl h))
            · rw [hsz] at h; exact .inr h
          · exact .inl ((hbk _).2 (.inr (.inl rfl)))
          · exact .inl ((hbk _).2 (.inr (.inr rfl)))
      rintro e a3 W3 hp
      cases e with
      | normal =>
        obtain ⟨X3, hg3, ho3, hi3⟩ := hp
        obtain ⟨hr, hl4, hd4, m1, m2, hgx, hof, hgf, hoff⟩ := fin none X3 W3 hg3 ho3
        exact ⟨_, _, hr, _, hgf, hof, .inl ⟨rfl, X3, fun b => Iff.rfl, m1, m2, hgx, hI.1 _ _ _ _ hi3 hoff, hl4, hd4⟩⟩
      | ret =>
        obtain ⟨X3, hg3, ho3, hi3⟩ := hp
        obtain ⟨hr, hl4, hd4, m1, m2, hgx, hof, hgf, hoff⟩ := fin (some .ret) X3 W3 hg3 ho3
        exact ⟨_, _, hr, _, hgf, hof, .inr ⟨rfl, .ret, X3, fun b => Iff.rfl, m1, m2, hgx, (hIx _).1 _ _ _ _ hi3 hoff, hl4, hd4⟩⟩
      | exit id =>
        obtain ⟨X3, hg3, ho3, hi3⟩ := hp
        obtain ⟨hr, hl4, hd4, m1, m2, hgx, hof, hgf, hoff⟩ := fin (some (.exit id)) X3 W3 hg3 ho3
        exact ⟨_, _, hr, _, hgf, hof, .inr ⟨rfl, .exit id, X3, fun b => Iff.rfl, m1, m2, hgx, (hIx _).1 _ _ _ _ hi3 hoff, hl4, hd4⟩⟩
      | goto t =>
        obtain ⟨X3, hg3, ho3, hi3⟩ := hp
        obtain ⟨hr, hl4, hd4, m1, m2, hgx, hof, hgf, hoff⟩ := fin (some (.goto t)) X3 W3 hg3 ho3
        exact ⟨_, _, hr, _, hgf, hof, .inr ⟨rfl, .goto t, X3, fun b => Iff.rfl, m1, m2, hgx, (hIx _).1 _ _ _ _ hi3 hoff, hl4, hd4⟩⟩
      | panic ch => exact hp.elim
      | outgrown => exact hp.elim
    · -- behind the iterator
      rintro e W2 ⟨⟨v, rfl⟩, X', hgX, hoff, h⟩
      have hOffw : ∀ (X0 : Nat → Prop) (o : Obj), Off (fun b => X b ∨ Y b) w (W2.putObj (w.heap.size + 1) o) := fun X0 o => by
        have t := (hOff1 (fun b => X b ∨ Y b)).trans' (hoff.trans (Off.putObj W2 (w.heap.size + 1) o (.inl (.inr (.inr rfl))))) (fun b hb => by
          rcases hb with (h | rfl | rfl) | h
          · exact .inl (.inl h)
          · exact .inr (Nat.le_refl _)
          · exact .inr (by omega)
          · exact .inl (.inr h))
        exact t
      rcases h with ⟨X0, hbk, n1, n2, hgr, hi, hl, hd⟩ | ⟨k, hk, c, X0, hbk, n1, n2, hgr, hi, hl, hd⟩
      · refine ⟨none, _, by have := run_endLoop (P := P) hl (by rw [hrec]; simp); rw [hrec] at this; exact this, ?_⟩
        exact hdone w.heap.size X0 _ (Nat.le_refl _) n1 hgr (hOffw X0 _) (hI.1 _ _ _ _ hi (Off.putObj _ _ _ ⟨n2, fun h => by have := hR _ h; omega⟩)) ((World.putObj_heap_other (by omega)).trans hd)
      · refine ⟨some c, _, by have := run_endLoop (P := P) hl (by rw [hrec]; simp); rw [hrec] at this; exact this, ?_⟩
        exact hstop w.heap.size c k X0 _ hk (Nat.le_refl _) n1 hgr (hOffw X0 _) ((hIx c).1 _ _ _ _ hi (Off.putObj _ _ _ ⟨n2, fun h => by have := hR _ h; omega⟩)) ((World.putObj_heap_other (by omega)).trans hd)
end Go.Proofs.Ytbbompmpecblgaa.SeqR
end
section
/- Forests: below, tops. No program. -/
namespace Go.Proofs.Ytbbompmpecblgaa.FS
set_option linter.unusedVariables false
/-- Is id below top (or top itself)? -/
def belowP (f : Fo) (top id : Int) : Prop := 0 ≤ top ∧ ∃ m, Reach f m id top
noncomputable def belowB (f : Fo) (top id : Int) : Bool := mayB f && isNode f id && @decide (belowP f top id) (Classical.propDecidable _)
def topsL (f : Fo) : List Int := ((List.range f.length).filter (fun (i : Nat) => (at_ f i).parent == -1)).map (fun (i : Nat) => (i : Int))
theorem belowP_step {f : Fo} {top j : Int} (h0 : 0 ≤ j) (hne : j ≠ top) : belowP f top j ↔ belowP f top (at_ f j).parent := by
  constructor
  · rintro ⟨h, m, hm⟩
    cases m with
    | zero => exact absurd hm hne
    | succ m => exact ⟨h, m, hm.2⟩
  · rintro ⟨h, m, hm⟩
    exact ⟨h, m + 1, h0, hm⟩
theorem belowP_end {f : Fo} {top : Int} (hne : (-1 : Int) ≠ top) : ¬ belowP f top (-1) := by
  rintro ⟨h, m, hm⟩
  cases m with
  | zero => exact hne hm
  | succ m => have : (0 : Int) ≤ -1 := hm.1; omega
theorem below_eq {f : Fo} {top id : Int} (hm : mayB f = true) (hn : isNode f id = true) {b : Bool} (h : belowP f top id ↔ b = true) : belowB f top id = b := by
  unfold belowB
  rw [hm, hn]
  cases b with
  | false =>
    have : ¬ belowP f top id := fun hp => by have := h.1 hp; cases this
    rw [@decide_eq_false _ (Classical.propDecidable _) this]; rfl
  | true => rw [@decide_eq_true _ (Classical.propDecidable _) (h.2 rfl)]; rfl
theorem may_climbs {f : Fo} (h : mayB f = true) : climbsP f := by
  unfold mayB at h
  simp only [Bool.and_eq_true] at h
  exact climbs_iff.1 h.2
theorem may_family {f : Fo} (h : mayB f = true) : familyB f = true := by
  unfold mayB at h
  simp only [Bool.and_eq_true] at h
  exact h.1.2
theorem may_len {f : Fo} (h : mayB f = true) : 1 ≤ f.length ∧ f.length ≤ 60 := by
  unfold mayB at h
  simp only [Bool.and_eq_true, decide_eq_true_eq] at h
  exact ⟨h.1.1.1.1.1, h.1.1.1.1.2⟩
end Go.Proofs.Ytbbompmpecblgaa.FS
end
