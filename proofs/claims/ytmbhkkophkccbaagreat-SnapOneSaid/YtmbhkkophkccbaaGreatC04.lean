import Derived.Deep.OwnRows
import Derived.Test.YtmbhkkophkccbaaGreatC02
import Derived.Test.YtmbhkkophkccbaaGreatC03
section
namespace Go.Proofs.YtmbhkkophkccbaaGreat.FAttr
open Go Go.RowKit Go.Proofs.YtmbhkkophkccbaaGreat.Seq WS FS WordIt Mem Rd Word WordHas Shapes
set_option linter.unusedVariables false
set_option linter.unusedSimpArgs false

theorem attr_at {B : Nat} {w : World} {A : Option Addr} {n c : Nat} {l : List Av} (h : RdL attrE 2 B w (.slice A n c) l) {i : Nat} (hi : i < l.length) :
  ∃ b o : Nat, A = some ⟨b, o, none⟩ ∧ b < B ∧ w.cell? ⟨b, o + i * 2, none⟩ = some (.string l[i].name) ∧ w.cell? ⟨b, o + i * 2 + 1, none⟩ = some (.string l[i].value) ∧ l[i].name.size ≤ maxLen ∧ l[i].value.size ≤ maxLen := by
 obtain ⟨b, o, cs, e, hlt, hl, hc, rfl, hm, hm2⟩ := h.at_ hi
 exact ⟨b, o, e, hlt, hc 0 _ rfl, hc 1 _ rfl, hm, hm2⟩
def nms (l : List Av) : List (List UInt8) := l.map (·.name.data.toList)
theorem attrs_dup {l : List Av} {k : Nat} (hk : k < l.length) (hm : l[k].name.data.toList ∈ nms (l.take k)) : attrsB l = false := by
 unfold attrsB
 have : ¬ (l.map (·.name.data.toList)).Nodup := by
  intro hn
  have e : l.map (·.name.data.toList) = nms (l.take k) ++ (l[k].name.data.toList :: nms (l.drop (k + 1))) := by
   have h0 : l = l.take k ++ l[k] :: l.drop (k + 1) := by rw [← List.drop_eq_getElem_cons hk, List.take_append_drop]
   calc l.map (·.name.data.toList) = (l.take k ++ l[k] :: l.drop (k + 1)).map (·.name.data.toList) := by rw [← h0]
    _ = _ := by rw [List.map_append, List.map_cons]; rfl
  rw [e, List.nodup_append] at hn
  exact hn.2.2 _ hm _ (by simp) rfl
 rw [decide_eq_false this]
 simp
theorem attrs_bad {l : List Av} {k : Nat} (hk : k < l.length) (h : (nameB l[k].name.data.toList && textB l[k].value.data.toList) = false) : attrsB l = false := by
 unfold attrsB
 have : l.all (fun a => nameB a.name.data.toList && textB a.value.data.toList) = false := by
  rw [List.all_eq_false]
  exact ⟨l[k], List.getElem_mem _, by rw [h]; simp⟩
 rw [this]
 simp
theorem attrs_end {l : List Av} (h1 : (nms l).Nodup) (h2 : ∀ a ∈ l, nameB a.name.data.toList = true ∧ textB a.value.data.toList = true) : attrsB l = decide (l.length ≤ 8) := by
 unfold attrsB
 rw [List.all_eq_true.2 (fun a ha => by rw [(h2 a ha).1, (h2 a ha).2]; rfl), decide_eq_true (show (l.map (·.name.data.toList)).Nodup from h1)]
 simp
set_option maxRecDepth 100000 in
set_option maxHeartbeats 2000000 in
theorem attributes_calls (w : World) (v : Value) (l : List Av) (h : RdL attrE 2 w.heap.size w v l) : Calls Tryz.prog 152 #[v] w fun e w' => e = .returned (.bool (attrsB l)) ∧ Below w.heap.size w w' := by
 have HR := Lib.hid (fun w' hb => h.below attrE_keeps (w' := w') hb (Nat.le_refl _))
 obtain ⟨A0, c0, rfl, hl0, hc0, _⟩ := h.form
 simp only [maxLen] at hc0
 have hmm := @run_makeMap Tryz.prog
 clear h
 go_enter Tryz.func152, Tryz.ntmps152
 go_wp2
 clear hmm
 have hm0 : IMap (w.alloc (.map #[] 0)) w.heap.size Value.string (cnt (nms (l.take 0))) := by
  rw [show cnt (nms (l.take 0)) = fun _ => none from by funext x; simp [cnt, nms]]
  exact IMap.new (heap_new rfl)
 have hb0 := (Below.refl w.heap.size w).alloc (Nat.le_refl _) (.map #[] 0)
 generalize hW0 : w.alloc (.map #[] 0) = W0 at *
 have Hm0 := Lib.hid hm0; have Hb0 := Lib.hid hb0
 clear hm0 hb0 hW0
 go_loopw [9] (fun i wr => ∃ k : Nat, k ≤ l.length ∧ i = .int .i64 k ∧ IMap wr w.heap.size Value.string (cnt (nms (l.take k))) ∧ Below w.heap.size w wr ∧ (nms (l.take k)).Nodup ∧ (∀ a ∈ l.take k, nameB a.name.data.toList = true ∧ textB a.value.data.toList = true)) (fun i _ => l.length - (intOf i).toNat)
 case atStart => exact ⟨0, Nat.zero_le _, rfl, Hm0.out, Hb0.out, by simp [nms], by simp⟩
 case round =>
  obtain ⟨k, hk, rfl, h1, h2, h3, h4⟩ := hrel
  by_cases hlt : k < l.length
  ·obtain ⟨b, o, rfl, hbl, g0, g1, m0, m1⟩ := attr_at (HR.out _ h2) hlt
   have K := string_key (P := Tryz.prog) (kt := 9) Tryz.underlying9
   have ha1 : IMap (wr.alloc (.cells #[.string l[k].name, .string l[k].value] 112)) w.heap.size Value.string (cnt (nms (l.take k))) := h1.keep (Below.heap_alloc _ _ _ h1.lt)
   have hlk1 := ha1.lookup K (T := 272) Tryz.underlying272 Tryz.zeroValue3 l[k].name
   obtain ⟨ob, hup, ha2⟩ := ha1.update K (T := 272) Tryz.underlying272 l[k].name ((cnt (nms (l.take k)) l[k].name).getD 0 + 1)
   have hlk2 := ha2.lookup K (T := 272) Tryz.underlying272 Tryz.zeroValue3 l[k].name
   rw [if_pos rfl, Option.getD_some] at hlk2
   have hce : (⟨l[k].name.data.toList.toArray⟩ : ByteArray) = l[k].name := by rw [Array.toArray_toList]
   have hsn := cnt_snoc (nms (l.take k)) l[k].name.data.toList
   rw [hce] at hsn
   rw [hsn, show nms (l.take k) ++ [l[k].name.data.toList] = nms (l.take (k + 1)) by unfold nms; rw [List.take_succ_eq_append_getElem hlt, List.map_append]; rfl] at ha2
   have hlb : w.heap.size < wr.heap.size := h1.lt
   have hne : wr.heap.size ≠ w.heap.size := by omega
   have hg : ((wr.alloc (.cells #[.string l[k].name, .string l[k].value] 112)).putObj w.heap.size ob).heap[wr.heap.size]? = some (.cells #[.string l[k].name, .string l[k].value] 112 (0, 0)) := (put_other hne).trans (heap_new rfl)
   have hbl : Below w.heap.size w ((wr.alloc (.cells #[.string l[k].name, .string l[k].value] 112)).putObj w.heap.size ob) := (h2.alloc h2.size _).trans (Off.toBelow (Y := fun b => b = w.heap.size) (Off.putObj _ _ _ rfl) (by simp; omega) (fun b hb => by omega))
   generalize (wr.alloc (.cells #[.string l[k].name, .string l[k].value] 112)).putObj w.heap.size ob = W2 at *
   have gn : W2.cell? ⟨wr.heap.size, 0, none⟩ = some (.string l[k].name) := by rw [cell_of_row _ _ _ _ _ _ hg]; rfl
   have gv : W2.cell? ⟨wr.heap.size, 1, none⟩ = some (.string l[k].value) := by rw [cell_of_row _ _ _ _ _ _ hg]; rfl
   have hcn : (l[k].name.data.toList ∈ nms (l.take k) ∧ 1 ≤ (cnt (nms (l.take k)) l[k].name).getD 0 ∧ (cnt (nms (l.take k)) l[k].name).getD 0 ≤ k) ∨ (l[k].name.data.toList ∉ nms (l.take k) ∧ (cnt (nms (l.take k)) l[k].name).getD 0 = 0) := by
    unfold cnt
    by_cases hm : l[k].name.data.toList ∈ nms (l.take k)
    ·left
     rw [if_pos hm]
     have h5 := List.count_pos_iff.2 hm
     have h6 := List.count_le_length (a := l[k].name.data.toList) (l := nms (l.take k))
     have h7 : (nms (l.take k)).length ≤ k := by unfold nms; rw [List.length_map]; exact List.length_take_le _ _
     simp only [Option.getD_some]
     exact ⟨hm, by omega, by omega⟩
    ·right
     rw [if_neg hm]
     exact ⟨hm, rfl⟩
   generalize (cnt (nms (l.take k)) l[k].name).getD 0 = cn at *
   have hN : ∀ w, Calls Tryz.prog 151 #[.string l[k].name] w fun e w' => e = .returned (.bool (nameB l[k].name.data.toList)) ∧ w = w' := fun w => Name_calls _ w
   have hT : ∀ w, Calls Tryz.prog 150 #[.string l[k].value] w fun e w' => e = .returned (.bool (textB l[k].value.data.toList)) ∧ w = w' := fun w => Text_calls _ w
   have HN := Lib.hid hN; have HT := Lib.hid hT; have Ha2 := Lib.hid ha2; have Hbl := Lib.hid hbl
   have H3 := Lib.hid h3; have H4 := Lib.hid h4
   clear h1 h2 h3 h4 ha1 ha2 hsn hce K hg hbl hN hT hne
   rcases hcn with ⟨hm, c1, c2⟩ | ⟨hm, rfl⟩
   ·have Hm := Lib.hid hm; clear hm
    go_wp2_with fail
    go_ret
    exact ⟨ret_bool ((attrs_dup hlt Hm.out).symm), Hbl.out⟩
   ·have Hm := Lib.hid hm; clear hm
    rw [Int.zero_add] at hup hlk2
    cases hn : nameB l[k].name.data.toList with
    | false =>
     rw [hn] at HN
     have Hn := Lib.hid hn; clear hn
     go_wp2_with (go_at_call 151; refine (HN.out _).mono ?_; rintro e w5 ⟨rfl, rfl⟩)
     go_ret
     exact ⟨ret_bool ((attrs_bad hlt (by rw [Hn.out]; rfl)).symm), Hbl.out⟩
    | true =>
     rw [hn] at HN
     have Hn := Lib.hid hn; clear hn
     cases ht : textB l[k].value.data.toList with
     | false =>
      rw [ht] at HT
      have Ht := Lib.hid ht; clear ht
      go_wp2_with (first | (go_at_call 151; refine (HN.out _).mono ?_; rintro e w5 ⟨rfl, rfl⟩) | (go_at_call 150; refine (HT.out _).mono ?_; rintro e w5 ⟨rfl, rfl⟩))
      go_ret
      exact ⟨ret_bool ((attrs_bad hlt (by rw [Hn.out, Ht.out]; rfl)).symm), Hbl.out⟩
     | true =>
      rw [ht] at HT
      have Ht := Lib.hid ht; clear ht
      go_wp2_with (first | (go_at_call 151; refine (HN.out _).mono ?_; rintro e w5 ⟨rfl, rfl⟩) | (go_at_call 150; refine (HT.out _).mono ?_; rintro e w5 ⟨rfl, rfl⟩))
      go_roundw
      case rel =>
       refine ⟨k + 1, by omega, by go_num, Ha2.out, Hbl.out, ?_, ?_⟩
       ·rw [List.take_succ_eq_append_getElem hlt]
        unfold nms
        rw [List.map_append, List.nodup_append]
        refine ⟨H3.out, by simp, fun a ha b hb e => ?_⟩
        simp at hb
        subst e
        exact Hm.out (by rw [← hb]; exact ha)
       ·intro a ha
        rw [List.take_succ_eq_append_getElem hlt, List.mem_append] at ha
        rcases ha with ha | ha
        ·exact H4.out a ha
        ·simp at ha
         subst ha
         exact ⟨Hn.out, Ht.out⟩
      case measure => simp [intOf]; omega
  ·obtain rfl : k = l.length := by omega
   have H2 := Lib.hid h2
   rw [List.take_length] at h3 h4
   have H3 := Lib.hid h3; have H4 := Lib.hid h4
   clear h1 h2 h3 h4
   go_wp2
   go_ret
   exact ⟨ret_bool (by rw [attrs_end H3.out H4.out]; simp; try omega), H2.out⟩
end Go.Proofs.YtmbhkkophkccbaaGreat.FAttr
end
section
namespace Go.Proofs.YtmbhkkophkccbaaGreat.FFam
open Go Go.RowKit Go.Proofs.YtmbhkkophkccbaaGreat.Seq WS FS WordIt Mem Rd Word WordHas Shapes
set_option linter.unusedVariables false
set_option linter.unusedSimpArgs false

theorem at_nat {f : Fo} {i : Nat} (hi : i < f.length) : at_ f (i : Int) = f[i] := by
 unfold at_
 rw [if_pos (by omega), Int.toNat_natCast, List.getD_eq_getElem?_getD, List.getElem?_eq_getElem hi]
 rfl
theorem isNode_iff (f : Fo) (k : Int) : isNode f k = true ↔ 0 ≤ k ∧ k < f.length := by unfold isNode; simp
theorem kid_bad {f : Fo} {id : Nat} {n : Nd} {j : Nat} (hj : j < n.kids.length) (h : isNode f n.kids[j] = false ∨ (at_ f n.kids[j]).parent ≠ id) : kidsB f id n = false := by
 unfold kidsB
 rw [Bool.and_eq_false_iff]
 left
 rw [List.all_eq_false]
 refine ⟨n.kids[j], List.getElem_mem _, ?_⟩
 rcases h with h | h
 ·rw [h]; simp
 ·rw [decide_eq_false h]; simp
theorem kid_bad0 {f : Fo} {n : Nd} {j : Nat} (hj : j < n.kids.length) (h : (at_ f n.kids[j]).kind = 2 ∨ 2 ≤ elems f (n.kids.take (j + 1))) : kidsB f 0 n = false := by
 unfold kidsB
 rw [Bool.and_eq_false_iff]
 right
 rw [Bool.or_eq_false_iff]
 refine ⟨by simp, ?_⟩
 rw [Bool.and_eq_false_iff]
 rcases h with h | h
 ·left
  rw [List.all_eq_false]
  exact ⟨n.kids[j], List.getElem_mem _, by rw [h]; simp⟩
 ·right
  rw [decide_eq_false_iff_not]
  have : elems f (n.kids.take (j + 1)) ≤ elems f n.kids := by
   unfold elems
   conv => rhs; rw [← List.take_append_drop (j + 1) n.kids]
   rw [List.countP_append]; omega
  omega
def KidsUp (f : Fo) (id : Nat) (l : List Int) (j : Nat) : Prop :=
 (∀ k ∈ l.take j, isNode f k = true ∧ (at_ f k).parent = id) ∧ (id = 0 → (∀ k ∈ l.take j, (at_ f k).kind ≠ 2) ∧ elems f (l.take j) ≤ 1)
theorem KidsUp.zero (f : Fo) (id : Nat) (l : List Int) : KidsUp f id l 0 := ⟨by simp, fun _ => ⟨by simp, by simp [elems]⟩⟩
theorem KidsUp.all {f : Fo} {id : Nat} {n : Nd} (h : KidsUp f id n.kids n.kids.length) : kidsB f id n = true := by
 obtain ⟨h1, h2⟩ := h
 rw [List.take_length] at h1 h2
 unfold kidsB
 rw [Bool.and_eq_true, List.all_eq_true]
 refine ⟨fun k hk => by rw [(h1 k hk).1, decide_eq_true (h1 k hk).2]; rfl, ?_⟩
 by_cases h0 : id = 0
 ·obtain ⟨h3, h4⟩ := h2 h0
  rw [List.all_eq_true.2 (fun k hk => by simpa using h3 k hk), decide_eq_true h4]
  simp
 ·simp [h0]
theorem elems_succ {f : Fo} {l : List Int} {j : Nat} (hj : j < l.length) : elems f (l.take (j + 1)) = elems f (l.take j) + if (at_ f l[j]).kind = 1 then 1 else 0 := by
 unfold elems
 rw [List.take_succ_eq_append_getElem hj, List.countP_append, List.countP_singleton]
 simp
theorem KidsUp.succ {f : Fo} {id : Nat} {l : List Int} {j : Nat} (h : KidsUp f id l j) (hj : j < l.length) (h1 : isNode f l[j] = true) (h2 : (at_ f l[j]).parent = id) (h3 : id = 0 → (at_ f l[j]).kind ≠ 2 ∧ elems f (l.take (j + 1)) ≤ 1) : KidsUp f id l (j + 1) := by
 rw [KidsUp, List.take_succ_eq_append_getElem hj]
 refine ⟨fun k hk => ?_, fun h0 => ⟨fun k hk => ?_, by rw [← List.take_succ_eq_append_getElem hj]; exact (h3 h0).2⟩⟩
 ·rcases List.mem_append.1 hk with hk | hk
  ·exact h.1 k hk
  ·simp at hk; subst hk; exact ⟨h1, h2⟩
 ·rcases List.mem_append.1 hk with hk | hk
  ·exact (h.2 h0).1 k hk
  ·simp at hk; subst hk; exact (h3 h0).1
theorem fam_bad1 {f : Fo} {id : Nat} (hi : id < f.length) (h : kidsB f id f[id] = false) : familyB f = false := by
 unfold familyB
 rw [Bool.and_eq_false_iff]
 left
 rw [List.all_eq_false]
 exact ⟨id, List.mem_range.2 hi, by rw [at_nat hi, h]; simp⟩
theorem fam_bad2 {f : Fo} {id : Nat} (hi : id < f.length) (h : parentB f id f[id] = false) : familyB f = false := by
 unfold familyB
 rw [Bool.and_eq_false_iff]
 right
 rw [List.all_eq_false]
 exact ⟨id, List.mem_range.2 hi, by rw [at_nat hi, h]; simp⟩
theorem fam_good {f : Fo} (h1 : ∀ id (hi : id < f.length), kidsB f id f[id] = true) (h2 : ∀ id (hi : id < f.length), parentB f id f[id] = true) : familyB f = true := by
 unfold familyB
 rw [Bool.and_eq_true, List.all_eq_true, List.all_eq_true]
 exact ⟨fun id hi => by rw [List.mem_range] at hi; rw [at_nat hi]; exact h1 id hi, fun id hi => by rw [List.mem_range] at hi; rw [at_nat hi]; exact h2 id hi⟩
def told (f : Fo) (id : Nat) (l : List Int) (i : Nat) : Nat := known (f.take id) i + l.count (i : Int)
theorem told_next {f : Fo} {id : Nat} (hi : id < f.length) (i : Nat) : told f id f[id].kids i = told f (id + 1) [] i := by
 unfold told known
 rw [List.take_succ_eq_append_getElem hi, List.map_append, List.sum_append]
 simp
theorem told_snoc (f : Fo) (id : Nat) (l : List Int) (x : Nat) (i : Nat) : told f id (l ++ [(x : Int)]) i = told f id l i + if x = i then 1 else 0 := by
 unfold told
 rw [List.count_append]
 by_cases h : x = i
 ·subst h; simp; omega
 ·rw [if_neg h]
  have : [(x : Int)].count (i : Int) = 0 := List.count_eq_zero_of_not_mem (by simp; omega)
  omega
theorem told_le {f : Fo} {M : Nat} (hk : ∀ n ∈ f, n.kids.length ≤ M) {id : Nat} (l : List Int) (hl : l.length ≤ M) (i : Nat) (hid : id ≤ f.length) : told f id l i ≤ (id + 1) * M := by
 unfold told known
 have h1 : ∀ (g : Fo), (∀ n ∈ g, n.kids.length ≤ M) → (g.map (fun n => n.kids.count (i : Int))).sum ≤ g.length * M := by
  intro g
  induction g with
  | nil => intro _; simp
  | cons n g ih =>
   intro h
   rw [List.map_cons, List.sum_cons, List.length_cons, Nat.add_mul]
   have := ih (fun n hn => h n (by simp [hn]))
   have := h n (by simp)
   have := List.count_le_length (a := (i : Int)) (l := n.kids)
   omega
 have h2 := h1 (f.take id) (fun n hn => hk n (List.mem_of_mem_take hn))
 have h3 : (f.take id).length = id := by simp; omega
 rw [h3] at h2
 have := List.count_le_length (a := (i : Int)) (l := l)
 rw [Nat.add_mul]
 omega
def cRow (n : Nat) (c : Nat → Nat) : List Value := (List.range n).map (fun i => Value.int .i64 (c i : Nat))
theorem cRow_length (n : Nat) (c : Nat → Nat) : (cRow n c).length = n := by simp [cRow]
theorem cRow_get {n : Nat} {c : Nat → Nat} {i : Nat} (hi : i < n) : (cRow n c)[i]? = some (Value.int .i64 (c i : Nat)) := by
 simp [cRow, hi]
theorem cRow_set {n : Nat} {c c' : Nat → Nat} {i : Nat} (hi : i < n) {u : Value} (hu : u = Value.int .i64 (c' i : Nat)) (hc : ∀ j, j ≠ i → c' j = c j) : (cRow n c).set i u = cRow n c' := by
 apply List.ext_getElem?
 intro j
 rw [List.getElem?_set]
 by_cases hj : i = j
 ·subst hj
  rw [if_pos rfl, if_pos (by rw [cRow_length]; exact hi), cRow_get hi, hu]
 ·rw [if_neg hj]
  by_cases hjn : j < n
  ·rw [cRow_get hjn, cRow_get hjn, hc j (fun e => hj e.symm)]
  ·rw [List.getElem?_eq_none (by rw [cRow_length]; omega), List.getElem?_eq_none (by rw [cRow_length]; omega)]
theorem cRow_congr {n : Nat} {c c' : Nat → Nat} (h : ∀ j, c j = c' j) : cRow n c = cRow n c' := by rw [show c = c' from funext h]

theorem node_at {B : Nat} {w : World} {A : Option Addr} {n c : Nat} {f : Fo} (h : RdF B w (.slice A n c) f) {i : Nat} (hi : i < f.length) :
  ∃ (b o : Nat) (Aa : Option Addr) (ca : Nat) (Ak : Option Addr) (ck : Nat), A = some ⟨b, o, none⟩ ∧ b < B ∧ w.cell? ⟨b, o + i * 6, none⟩ = some (.int .i64 f[i].kind) ∧ w.cell? ⟨b, o + i * 6 + 1, none⟩ = some (.string f[i].name) ∧ w.cell? ⟨b, o + i * 6 + 2, none⟩ = some (.string f[i].text) ∧
   w.cell? ⟨b, o + i * 6 + 3, none⟩ = some (.slice Aa f[i].attrs.length ca) ∧ w.cell? ⟨b, o + i * 6 + 4, none⟩ = some (.int .i64 f[i].parent) ∧ w.cell? ⟨b, o + i * 6 + 5, none⟩ = some (.slice Ak f[i].kids.length ck) ∧
   RdL attrE 2 B w (.slice Aa f[i].attrs.length ca) f[i].attrs ∧ RdL (intE .i64) 1 B w (.slice Ak f[i].kids.length ck) f[i].kids ∧ f[i].attrs.length ≤ ca ∧ ca ≤ maxLen ∧ f[i].kids.length ≤ ck ∧ ck ≤ maxLen ∧
   f[i].name.size ≤ maxLen ∧ f[i].text.size ≤ maxLen ∧ (Lit.int .i64 f[i].kind).wf = true ∧ (Lit.int .i64 f[i].parent).wf = true := by
 obtain ⟨b, o, cs, e, hlt, hl, hc, va, vk, rfl, ha, hk, m1, m2, m3, m4⟩ := h.at_ hi
 obtain ⟨Aa, ca, rfl, p1, p2, ha'⟩ := ha.form
 obtain ⟨Ak, ck, rfl, p3, p4, hk'⟩ := hk.form
 exact ⟨b, o, Aa, ca, Ak, ck, e, hlt, hc 0 _ rfl, hc 1 _ rfl, hc 2 _ rfl, hc 3 _ rfl, hc 4 _ rfl, hc 5 _ rfl, ha', hk', p1, p2, p3, p4, m1, m2, m3, m4⟩
theorem info_int : (Tryz.prog.info? 3).map (fun i => (i.zero, i.size, i.bytes)) = some (some (.int .i64 0), 1, 8) := by kernel_rfl
theorem made_row (n : Nat) : (madeCells #[Value.int .i64 0] n).toList = cRow n (fun _ => 0) := by
 rw [toList_madeCells_one]
 apply List.ext_getElem?
 intro i
 by_cases hi : i < n
 ·rw [cRow_get hi]; simp [hi]
 ·rw [List.getElem?_eq_none (by simp; omega), List.getElem?_eq_none (by rw [cRow_length]; omega)]
set_option maxRecDepth 100000 in
set_option maxHeartbeats 8000000 in
theorem family_calls (w : World) (v : Value) (f : Fo) (h : RdF w.heap.size w v f) (hf : f.length ≤ 60) (hkm : ∀ n ∈ f, n.kids.length ≤ 1000) :
  Calls Tryz.prog 102 #[v] w fun e w' => e = .returned (.bool (familyB f)) ∧ Below w.heap.size w w' := by
 have HR := Lib.hid (fun w' hb => h.below nodeE_keeps (w' := w') hb (Nat.le_refl _))
 obtain ⟨A0, c0, rfl, hl0, hc0, _⟩ := h.form
 simp only [maxLen] at hc0
 have hmk := fun W => run_make_row' (P := Tryz.prog) 34 3 (.int .i64 0) 8 Tryz.underlying34 info_int rfl .i64 .i64 f.length (by omega) (by omega) W
 clear h
 go_enter Tryz.func102, Tryz.ntmps102
 go_wp2
 clear hmk
 have hown0 : (w.alloc (.cells (madeCells #[.int .i64 0] f.length) 3)).ownsRow w.heap.size 3 1 (.slice (some ⟨w.heap.size, 0, none⟩) f.length f.length) f.length (cRow f.length (told f 0 [])) := by
  have := World.ownsRow_lit (base := w.heap.size) (e := 3) (size := 1) w (madeCells #[.int .i64 0] f.length) f.length (Nat.le_refl _) (by simp only [maxLen]; omega) (by rw [size_madeCells]; omega)
  rw [made_row] at this
  rw [cRow_congr (c' := fun _ => 0) (fun j => by simp [told, known])]
  exact this
 have hb0 := (Below.refl w.heap.size w).alloc (Nat.le_refl _) (.cells (madeCells #[.int .i64 0] f.length) 3)
 have Hown0 := Lib.hid hown0; have Hb0 := Lib.hid hb0; have Hkm := Lib.hid hkm
 clear hown0 hb0 hkm
 go_loopw [16] (fun i wr => ∃ id : Nat, id ≤ f.length ∧ i = .int .i64 id ∧ wr.ownsRow w.heap.size 3 1 (.slice (some ⟨w.heap.size, 0, none⟩) f.length f.length) f.length (cRow f.length (told f id [])) ∧ Below w.heap.size w wr ∧ ∀ j (hj : j < f.length), j < id → kidsB f j f[j] = true) (fun i _ => f.length - (intOf i).toNat)
 case atStart => exact ⟨0, Nat.zero_le _, rfl, Hown0.out, Hb0.out, fun j hj h => by omega⟩
 case round =>
  obtain ⟨wo, hwo⟩ : ∃ wo, wo = wr := ⟨_, rfl⟩
  subst hwo
  obtain ⟨id, hid, rfl, h1, h2, h3⟩ := hrel
  by_cases hlt : id < f.length
  ·obtain ⟨b, o, Aa, ca, Ak, ck, rfl, hbl, g0, g1, g2, g3, g4, g5, ra, rk, la, lca, lk, lck, m1, m2, m3, m4⟩ := node_at (HR.out _ h2) hlt
   have hkl := Hkm.out f[id] (List.getElem_mem _)
   have hbx := h2.alloc h2.size (.cells #[.int .i64 f[id].kind, .string f[id].name, .string f[id].text, .slice Aa f[id].attrs.length ca, .int .i64 f[id].parent, .slice Ak f[id].kids.length ck] 50)
   have hox := own_keep h1 (w' := wo.alloc (.cells #[.int .i64 f[id].kind, .string f[id].name, .string f[id].text, .slice Aa f[id].attrs.length ca, .int .i64 f[id].parent, .slice Ak f[id].kids.length ck] 50)) (fun g hg => Below.heap_alloc _ _ _ (h1.lt g hg).2)
   have H1 := Lib.hid h1; have H2 := Lib.hid h2; have H3 := Lib.hid h3; have Hra := Lib.hid ra; have Hrk := Lib.hid rk; have Hbx := Lib.hid hbx; have Hox := Lib.hid hox
   simp only [maxLen] at lck
   clear h1 h2 h3 ra rk hbx hox m1 m2 m3 m4
   go_wp2
   clear g0 g1 g2 g3 g4 g5
   have hnx : ∀ (wz : World) (j : Nat), j = f[id].kids.length → wz.ownsRow w.heap.size 3 1 (.slice (some ⟨w.heap.size, 0, none⟩) f.length f.length) f.length (cRow f.length (told f id (f[id].kids.take j))) → wz.ownsRow w.heap.size 3 1 (.slice (some ⟨w.heap.size, 0, none⟩) f.length f.length) f.length (cRow f.length (told f (id + 1) [])) := fun wz j hj h => by
    rw [hj, List.take_length, cRow_congr (c' := told f (id + 1) []) (fun i => told_next hlt i)] at h
    exact h
   have Hnx := Lib.hid hnx; clear hnx
   go_loopw [6, 24] (fun e i wr => ∃ j : Nat, j ≤ f[id].kids.length ∧ i = .int .i64 j ∧ e = .int .i64 (elems f (f[id].kids.take j) : Nat) ∧ wr.ownsRow w.heap.size 3 1 (.slice (some ⟨w.heap.size, 0, none⟩) f.length f.length) f.length (cRow f.length (told f id (f[id].kids.take j))) ∧ Below w.heap.size wo wr ∧ KidsUp f id f[id].kids j) (fun _ i _ => f[id].kids.length - (intOf i).toNat)
   case atStart => exact ⟨0, Nat.zero_le _, rfl, rfl, Hox.out, (Below.refl _ _).alloc H2.out.size _, KidsUp.zero _ _ _⟩
   case round =>
    obtain ⟨j, hj, rfl, rfl, h1, h2, h3⟩ := hrel
    by_cases hjl : j < f[id].kids.length
    ·obtain ⟨bk, ok, rfl, hbk, gk, hwf⟩ := intE_at (Hrk.out.keep (intE_keeps _) h2 (Nat.le_refl _)) hjl
     have hW : Below w.heap.size w wr := H2.out.trans h2
     have hbad := kid_bad (f := f) (id := id) (n := f[id]) hjl
     have hbad0 := kid_bad0 (f := f) (n := f[id]) hjl
     have hsucc := h3.succ hjl
     have hel := elems_succ (f := f) hjl
     have hell : elems f (f[id].kids.take j) ≤ j := Nat.le_trans List.countP_le_length (List.length_take_le _ _)
     have htk := List.take_succ_eq_append_getElem hjl
     by_cases hneg : f[id].kids[j] < 0
     ·have hff := fam_bad1 hlt (hbad (.inl (by rw [← Bool.not_eq_true, isNode_iff]; omega)))
      generalize f[id].kids[j] = x at *
      have Hff := Lib.hid hff; have HW := Lib.hid hW
      clear h1 h2 h3 hbad hbad0 hsucc hel hff hW htk hwf
      go_wp2
      go_ret
      exact ⟨ret_bool Hff.out.symm, HW.out⟩
     ·by_cases hbig : (f.length : Int) ≤ f[id].kids[j]
      ·have hff := fam_bad1 hlt (hbad (.inl (by rw [← Bool.not_eq_true, isNode_iff]; omega)))
       generalize f[id].kids[j] = x at *
       have Hff := Lib.hid hff; have HW := Lib.hid hW
       clear h1 h2 h3 hbad hbad0 hsucc hel hff hW htk hwf
       go_wp2
       go_ret
       exact ⟨ret_bool Hff.out.symm, HW.out⟩
      ·obtain ⟨x, hx⟩ : ∃ x : Nat, f[id].kids[j] = x := ⟨f[id].kids[j].toNat, by omega⟩
       have hxl : x < f.length := by omega
       rw [hx] at gk hbad hbad0 hsucc hel htk
       rw [at_nat hxl] at hbad hbad0 hsucc hel
       obtain ⟨b', o', _, _, _, _, he, _, n0, _, _, _, n4, _⟩ := node_at (HR.out _ hW) hxl
       simp only [Option.some.injEq, Addr.mk.injEq, and_true] at he
       obtain ⟨rfl, rfl⟩ := he
       generalize hkd : f[x].kind = kd at *
       generalize hpr : f[x].parent = pr at *
       clear hneg hbig
       have e1 : (kd == 1) = decide (kd = 1) := rfl
       have e2 : (kd == 2) = decide (kd = 2) := rfl
       by_cases hpi : pr = (id : Int)
       case neg =>
        have hff := fam_bad1 hlt (hbad (.inr hpi))
        have hpb : (pr == (id : Int)) = false := by rw [beq_eq_false_iff_ne]; exact hpi
        have hpb2 : (pr != (id : Int)) = true := by rw [bne_iff_ne]; exact hpi
        have Hff := Lib.hid hff; have HW := Lib.hid hW
        clear h1 h2 h3 hbad hbad0 hsucc hel hff hW htk hwf e1 e2 hpi
        go_wp2
        go_ret
        exact ⟨ret_bool Hff.out.symm, HW.out⟩
       case pos =>
        subst hpi
        have hcl := h1.cellAt x (by omega)
        rw [cRow_get hxl] at hcl
        have hfz := h1.frozenAt x
        have htb := told_le Hkm.out (id := id) (f[id].kids.take j) (by rw [List.length_take]; omega) x hid
        have htn : told f id (f[id].kids.take j) x + 1 = told f id (f[id].kids.take (j + 1)) x := by rw [htk, told_snoc, if_pos rfl]
        have hst : ∀ u, u = Value.int .i64 ((told f id (f[id].kids.take j) x : Int) + 1) → (wr.setCell ⟨w.heap.size, x, none⟩ u).ownsRow w.heap.size 3 1 (.slice (some ⟨w.heap.size, 0, none⟩) f.length f.length) f.length (cRow f.length (told f id (f[id].kids.take (j + 1)))) := fun u hu => by
         have := (h1.stored x u).1
         rwa [cRow_set hxl (c' := told f id (f[id].kids.take (j + 1))) (by rw [hu, ← htn]; rfl) (fun i hi => by rw [htk, told_snoc, if_neg (fun e => hi e.symm)]; rfl)] at this
        have hbs : ∀ u, Below w.heap.size wo (wr.setCell ⟨w.heap.size, x, none⟩ u) := fun u => h2.setCell (p := ⟨w.heap.size, x, none⟩) (Nat.le_refl _) u
        have n0' : ∀ u, (wr.setCell ⟨w.heap.size, x, none⟩ u).cell? ⟨b, o + x * 6, none⟩ = some (.int .i64 kd) := fun u => (World.cell?_of_block (set_other (by show b ≠ w.heap.size; omega))).trans n0
        generalize told f id (f[id].kids.take j) x = tv at *
        have hto : (id + 1) * 1000 ≤ 61000 := by omega
        have hpb2 : ((id : Int) != (id : Int)) = false := by simp
        have Hst := Lib.hid hst; have Hbs := Lib.hid hbs
        have H1 := Lib.hid h1; have H3 := Lib.hid h3
        clear h1 h2 h3 hbad htk hwf hst hbs htn
        by_cases h0 : id = 0
        ·have hel1 := (H3.out.2 h0).2
         have hid0 : ((id : Int) == 0) = true := by rw [h0]; rfl
         have hbad0 : kd = 2 ∨ 2 ≤ elems f (f[id].kids.take (j + 1)) → kidsB f id f[id] = false := by subst h0; exact hbad0
         have H0 := Lib.hid h0; clear h0
         by_cases hk2 : kd = 2
         ·subst hk2
          have hff := fam_bad1 hlt (hbad0 (.inl rfl))
          have Hff := Lib.hid hff; have HW := Lib.hid hW
          clear hbad0 hsucc hel hel1 hff hW e1 e2
          go_wp2
          go_ret
          exact ⟨ret_bool Hff.out.symm, ((Below.refl w.heap.size w).trans H2.out).trans (Hbs.out _)⟩
         ·rw [decide_eq_false hk2] at e2
          by_cases hk1 : kd = 1
          ·subst hk1
           rw [if_pos rfl] at hel
           by_cases he0 : elems f (f[id].kids.take j) = 0
           ·have hk1 := hsucc (by rw [isNode_iff]; omega) rfl (fun _ => ⟨by decide, by omega⟩)
            have Hk1 := Lib.hid hk1; have Hel := Lib.hid hel
            clear hbad0 hsucc hel hel1 hW e1 e2 hk1
            rw [he0] at *
            go_wp2
            go_roundw
            case rel => exact ⟨j + 1, by omega, by go_num, by rw [Hel.out]; rfl, Hst.out _ rfl, Hbs.out _, Hk1.out⟩
            case measure => simp [intOf]; omega
           ·have hff := fam_bad1 hlt (hbad0 (.inr (by omega)))
            have Hff := Lib.hid hff
            clear hbad0 hsucc hel hff hW e1 e2
            generalize elems f (f[id].kids.take j) = ev at *
            go_wp2
            go_ret
            exact ⟨ret_bool Hff.out.symm, ((Below.refl w.heap.size w).trans H2.out).trans (Hbs.out _)⟩
          ·rw [decide_eq_false hk1] at e1
           rw [if_neg hk1, Nat.add_zero] at hel
           have hk1 := hsucc (by rw [isNode_iff]; omega) rfl (fun _ => ⟨hk2, by omega⟩)
           have Hk1 := Lib.hid hk1; have Hel := Lib.hid hel
           clear hbad0 hsucc hel hW hk1 hk2
           generalize hev : elems f (f[id].kids.take j) = ev at *
           have Hev := Lib.hid hev; clear hev
           go_wp2
           go_roundw
           case rel => exact ⟨j + 1, by omega, by go_num, by first | (rw [Hel.out]; done) | (rw [Hel.out]; rfl), Hst.out _ rfl, Hbs.out _, Hk1.out⟩
           case measure => simp [intOf]; omega
        ·have hid0 : ((id : Int) == 0) = false := by rw [beq_eq_false_iff_ne]; omega
         have hk1 := hsucc (by rw [isNode_iff]; omega) rfl (fun h => absurd h h0)
         have Hk1 := Lib.hid hk1; clear hk1
         by_cases hk1 : kd = 1
         ·subst hk1
          rw [if_pos rfl] at hel
          have Hel := Lib.hid hel
          clear hbad0 hsucc hel hW e1 e2
          go_wp2
          go_roundw
          case rel => exact ⟨j + 1, by omega, by go_num, by rw [Hel.out]; rfl, Hst.out _ rfl, Hbs.out _, Hk1.out⟩
          case measure => simp [intOf]; omega
         ·rw [decide_eq_false hk1] at e1
          rw [if_neg hk1, Nat.add_zero] at hel
          have Hel := Lib.hid hel
          clear hbad0 hsucc hel hW e2 hk1
          go_wp2
          go_roundw
          case rel => exact ⟨j + 1, by omega, by go_num, by first | (rw [Hel.out]; done) | (rw [Hel.out]; rfl), Hst.out _ rfl, Hbs.out _, Hk1.out⟩
          case measure => simp [intOf]; omega
    ·obtain rfl : j = f[id].kids.length := by omega
     have H1 := Lib.hid (Hnx.out wr _ rfl h1); have H2 := Lib.hid (H2.out.trans h2)
     have hall := h3.all
     have Hall : Hid (∀ j (hj : j < f.length), j < id + 1 → kidsB f j f[j] = true) := Lib.hid (fun j hj hjk => by
      by_cases e : j = id
      ·subst e; exact hall
      ·exact H3.out j hj (by omega))
     clear h1 h2 h3 hall
     go_wp2
     go_roundw
     case rel => exact ⟨id + 1, by omega, by go_num, H1.out, H2.out, Hall.out⟩
     case measure => simp [intOf]; omega
  ·obtain rfl : id = f.length := by omega
   have hkn : ∀ i : Nat, told f f.length [] i = known f i := fun i => by simp [told]
   have h1' := h1
   rw [cRow_congr (c' := fun i : Nat => known f i) hkn] at h1'
   have H1 := Lib.hid h1'; have H2 := Lib.hid h2; have H3 := Lib.hid h3
   clear h1 h1' h2 h3 hkn
   go_wp2
   go_loopw [77] (fun i wr => ∃ id : Nat, id ≤ f.length ∧ i = .int .i64 id ∧ wr.ownsRow w.heap.size 3 1 (.slice (some ⟨w.heap.size, 0, none⟩) f.length f.length) f.length (cRow f.length (fun i : Nat => known f i)) ∧ Below w.heap.size w wr ∧ ∀ j (hj : j < f.length), j < id → parentB f j f[j] = true) (fun i _ => f.length - (intOf i).toNat)
   case atStart => exact ⟨0, Nat.zero_le _, rfl, H1.out, H2.out, fun j hj h => by omega⟩
   case round =>
    obtain ⟨id, hid, rfl, h1, h2, h3⟩ := hrel
    by_cases hlt : id < f.length
    ·obtain ⟨b, o, Aa, ca, Ak, ck, rfl, hbl, g0, g1, g2, g3, g4, g5, ra, rk, la, lca, lk, lck, m1, m2, m3, m4⟩ := node_at (HR.out _ h2) hlt
     have hbx := h2.alloc h2.size (.cells #[.int .i64 f[id].kind, .string f[id].name, .string f[id].text, .slice Aa f[id].attrs.length ca, .int .i64 f[id].parent, .slice Ak f[id].kids.length ck] 50)
     have hox := own_keep h1 (w' := wr.alloc (.cells #[.int .i64 f[id].kind, .string f[id].name, .string f[id].text, .slice Aa f[id].attrs.length ca, .int .i64 f[id].parent, .slice Ak f[id].kids.length ck] 50)) (fun g hg => Below.heap_alloc _ _ _ (h1.lt g hg).2)
     have hcl := hox.cellAt id (by omega)
     rw [cRow_get hlt] at hcl
     have hbadp : parentB f id f[id] = false → familyB f = false := fam_bad2 hlt
     have hgoodp : parentB f id f[id] = true → ∀ j (hj : j < f.length), j < id + 1 → parentB f j f[j] = true := fun h j hj hjk => by
      by_cases e : j = id
      ·subst e; exact h
      ·exact h3 j hj (by omega)
     have hpd : parentB f id f[id] = (decide (-1 ≤ f[id].parent) && decide (f[id].parent < f.length) && (decide (f[id].parent < 0) || decide (known f id = 1))) := rfl
     rw [hpd] at hbadp hgoodp
     have Hbx := Lib.hid hbx; have Hox := Lib.hid hox
     clear h1 h2 h3 ra rk hbx hox m1 m2 m3 m4 hpd
     generalize hkc : known f id = kc at *
     have ek : ((kc : Int) == 1) = decide (kc = 1) := by rw [Bool.eq_iff_iff]; simp; omega
     have ek2 : ((kc : Int) != 1) = !decide (kc = 1) := by rw [← ek]; rfl
     have hcase : (f[id].parent < -1) ∨ ((f.length : Int) ≤ f[id].parent) ∨ (f[id].parent = -1) ∨ (0 ≤ f[id].parent ∧ f[id].parent < f.length ∧ kc ≠ 1) ∨ (0 ≤ f[id].parent ∧ f[id].parent < f.length ∧ kc = 1) := by omega
     generalize f[id].parent = pr at *
     rcases hcase with h | h | h | ⟨h, h', hc⟩ | ⟨h, h', hc⟩
     ·have Hff := Lib.hid (hbadp (by rw [decide_eq_false (show ¬ -1 ≤ pr by omega)]; rfl))
      clear hbadp hgoodp ek ek2
      go_wp2
      go_ret
      exact ⟨ret_bool Hff.out.symm, Hbx.out⟩
     ·have Hff := Lib.hid (hbadp (by rw [decide_eq_false (show ¬ pr < f.length by omega)]; simp))
      clear hbadp hgoodp ek ek2
      go_wp2
      go_ret
      exact ⟨ret_bool Hff.out.symm, Hbx.out⟩
     ·have Hg := Lib.hid (hgoodp (by rw [decide_eq_true (show -1 ≤ pr by omega), decide_eq_true (show pr < f.length by omega), decide_eq_true (show pr < 0 by omega)]; rfl))
      clear hbadp hgoodp ek ek2
      subst h
      go_wp2
      go_roundw
      case rel => exact ⟨id + 1, by omega, by go_num, Hox.out, Hbx.out, Hg.out⟩
      case measure => simp [intOf]; omega
     ·have Hff := Lib.hid (hbadp (by rw [decide_eq_false (show ¬ pr < 0 by omega), decide_eq_false hc]; simp))
      rw [decide_eq_false hc] at ek ek2
      simp only [Bool.not_false] at ek2
      clear hbadp hgoodp
      go_wp2
      go_ret
      exact ⟨ret_bool Hff.out.symm, Hbx.out⟩
     ·have Hg := Lib.hid (hgoodp (by rw [decide_eq_true (show -1 ≤ pr by omega), decide_eq_true h', decide_eq_true hc]; simp))
      subst hc
      simp only [decide_true, Bool.not_true] at ek ek2
      clear hbadp hgoodp
      go_wp2
      go_roundw
      case rel => exact ⟨id + 1, by omega, by go_num, Hox.out, Hbx.out, Hg.out⟩
      case measure => simp [intOf]; omega
    ·obtain rfl : id = f.length := by omega
     have hff := fam_good (fun j hj => H3.out j hj hj) (fun j hj => h3 j hj hj)
     have Hff := Lib.hid hff; have H22 := Lib.hid h2
     clear h1 h2 h3 hff
     go_wp2
     go_ret
     exact ⟨ret_bool Hff.out.symm, H22.out⟩
end Go.Proofs.YtmbhkkophkccbaaGreat.FFam
end
section
namespace Go.Proofs.YtmbhkkophkccbaaGreat.FClimb
open Go Go.RowKit Go.Proofs.YtmbhkkophkccbaaGreat.Seq WS FS WordIt Mem Rd Word WordHas Shapes FFam
set_option linter.unusedVariables false
set_option linter.unusedSimpArgs false

def dRow (n : Nat) (d : Nat → Int) : List Value := (List.range n).map (fun i => Value.int .i64 (d i))
theorem dRow_length (n : Nat) (d : Nat → Int) : (dRow n d).length = n := by simp [dRow]
theorem dRow_get {n : Nat} {d : Nat → Int} {i : Nat} (hi : i < n) : (dRow n d)[i]? = some (Value.int .i64 (d i)) := by simp [dRow, hi]
def upd (d : Nat → Int) (i : Nat) (x : Int) : Nat → Int := fun j => if j = i then x else d j
theorem dRow_set {n : Nat} {d : Nat → Int} {i : Nat} (hi : i < n) (x : Int) : (dRow n d).set i (Value.int .i64 x) = dRow n (upd d i x) := by
 apply List.ext_getElem?
 intro j
 rw [List.getElem?_set]
 by_cases hj : i = j
 ·subst hj
  rw [if_pos rfl, if_pos (by rw [dRow_length]; exact hi), dRow_get hi]
  simp [upd]
 ·rw [if_neg hj]
  by_cases hjn : j < n
  ·rw [dRow_get hjn, dRow_get hjn, upd, if_neg (fun e => hj e.symm)]
  ·rw [List.getElem?_eq_none (by rw [dRow_length]; omega), List.getElem?_eq_none (by rw [dRow_length]; omega)]
def zeros (n : Nat) (d : Nat → Int) : Nat := (List.range n).countP (fun j => d j == 0)
theorem zeros_upd {n : Nat} {d : Nat → Int} {i : Nat} (hi : i < n) (h : d i = 0) {x : Int} (hx : x ≠ 0) : zeros n (upd d i x) + 1 = zeros n d := by
 unfold zeros
 induction n with
 | zero => omega
 | succ n ih =>
  rw [List.range_succ, List.countP_append, List.countP_append, List.countP_singleton, List.countP_singleton]
  by_cases e : i = n
  ·subst e
   have : (List.range i).countP (fun j => upd d i x j == 0) = (List.range i).countP (fun j => d j == 0) := by
    apply List.countP_congr
    intro j hj
    rw [List.mem_range] at hj
    rw [upd, if_neg (by omega)]
   rw [this]
   simp [upd, h, hx]
  ·have := ih (by omega)
   have e2 : upd d i x n = d n := by rw [upd, if_neg (fun h => e h.symm)]
   rw [e2]
   omega

structure CInv (f : Fo) (bd bc bf g base B c : Nat) (A : Option Addr) (d : Nat → Int) (w : World) : Prop where
 vd : w.heap[bd]? = some (.cells #[.slice (some ⟨g, 0, none⟩) f.length f.length] 34 (0, 0))
 vc : w.heap[bc]? = some (.cells #[.func (.func 153) #[] #[.pointer (some ⟨bd, 0, none⟩), .pointer (some ⟨bc, 0, none⟩), .pointer (some ⟨bf, 0, none⟩)]] 116 (0, 0))
 vf : w.heap[bf]? = some (.cells #[.slice A f.length c] 29 (0, 0))
 row : w.ownsRow base 3 1 (.slice (some ⟨g, 0, none⟩) f.length f.length) f.length (dRow f.length d)
 rd : RdF B w (.slice A f.length c) f
 nd : bd ≠ g
 nc : bc ≠ g
 nf : bf ≠ g
 hB : B ≤ g
theorem CInv.keep {f : Fo} {bd bc bf g base B c : Nat} {A : Option Addr} {d : Nat → Int} {w w' : World} (h : CInv f bd bc bf g base B c A d w) (ho : Off (fun b => b = g) w w') {d' : Nat → Int}
  (hr : w'.ownsRow base 3 1 (.slice (some ⟨g, 0, none⟩) f.length f.length) f.length (dRow f.length d')) : CInv f bd bc bf g base B c A d' w' := by
 have hg := (h.row.lt g rfl).2
 exact ⟨ho.keep h.vd h.nd, ho.keep h.vc h.nc, ho.keep h.vf h.nf, hr, h.rd.keep nodeE_keeps (ho.toBelow (Nat.le_trans h.hB (Nat.le_of_lt hg)) (fun b hb => by rw [hb]; exact h.hB)) (Nat.le_refl _), h.nd, h.nc, h.nf, h.hB⟩
theorem CInv.set {f : Fo} {bd bc bf g base B c : Nat} {A : Option Addr} {d : Nat → Int} {w : World} (h : CInv f bd bc bf g base B c A d w) {i : Nat} (hi : i < f.length) (x : Int) :
  CInv f bd bc bf g base B c A (upd d i x) (w.setCell ⟨g, i, none⟩ (.int .i64 x)) := by
 refine h.keep (Off.setCell _ _ _ rfl) ?_
 have := (h.row.stored i (.int .i64 x)).1
 rwa [dRow_set hi] at this
theorem CInv.drewN {f : Fo} {bd bc bf g base B c : Nat} {A : Option Addr} {d : Nat → Int} {w : World} (h : CInv f bd bc bf g base B c A d w) (n : Nat) : CInv f bd bc bf g base B c A d (w.drewN n) :=
 h.keep (Off.drewN _ _ _) (own_keep h.row (fun g hg => rfl))

theorem CInv.drew {f : Fo} {bd bc bf g base B c : Nat} {A : Option Addr} {d : Nat → Int} {w : World} (h : CInv f bd bc bf g base B c A d w) : CInv f bd bc bf g base B c A d w.drew :=
 h.keep (Off.drew _ _) (own_keep h.row (fun g hg => rfl))

def ClimbPost (f : Fo) (bd bc bf g base B c : Nat) (A : Option Addr) (d : Nat → Int) (i : Int) (w : World) (e : Ending) (w' : World) : Prop :=
 ∃ r d', e = .returned (.bool r) ∧ CInv f bd bc bf g base B c A d' w' ∧ Off (fun b => b = g) w w' ∧
  (r = true → (∃ m, Up f m i) ∧ (∀ j, j < f.length → 0 < d' j → ∃ m, Up f m j) ∧ (∀ j, j < f.length → (d' j < 0 ↔ d j < 0)) ∧ zeros f.length d' ≤ zeros f.length d) ∧
  (r = false → ¬ ∃ m, Up f m i)
theorem zeros_mono {n : Nat} {d : Nat → Int} {i : Nat} {x : Int} (hx : x ≠ 0) : zeros n (upd d i x) ≤ zeros n d := by
 unfold zeros
 apply List.countP_mono_left
 intro j _ h
 unfold upd at h
 by_cases e : j = i
 ·rw [if_pos e] at h; simp at h; exact absurd h hx
 ·rwa [if_neg e] at h
theorem ClimbPost.back {f : Fo} {bd bc bf g base B c : Nat} {A : Option Addr} {d d' : Nat → Int} {x : Nat} {w w1 w5 : World} {r : Bool} (hx : x < f.length) (h0 : d x = 0) (hI : CInv f bd bc bf g base B c A d' w5) (h1 : Off (fun b => b = g) w w1) (ho : Off (fun b => b = g) w1 w5)
  (ht : r = true → (∃ m, Up f m (at_ f x).parent) ∧ (∀ j, j < f.length → 0 < d' j → ∃ m, Up f m j) ∧ (∀ j, j < f.length → (d' j < 0 ↔ upd d x (-1) j < 0)) ∧ zeros f.length d' ≤ zeros f.length (upd d x (-1)))
  (hf : r = false → ¬ ∃ m, Up f m (at_ f x).parent) : ClimbPost f bd bc bf g base B c A d x w (.returned (.bool r)) (w5.setCell ⟨g, x, none⟩ (.int .i64 1)) := by
 refine ⟨r, upd d' x 1, rfl, hI.set hx 1, (h1.trans ho).trans (Off.setCell _ _ _ rfl), fun h => ?_, fun h => ?_⟩
 ·obtain ⟨⟨m, hm⟩, h2, h3, h4⟩ := ht h
  have hup : ∃ m, Up f m (x : Int) := ⟨m + 1, by omega, hm⟩
  refine ⟨hup, fun j hj hd => ?_, fun j hj => ?_, ?_⟩
  ·by_cases e : j = x
   ·subst e; exact hup
   ·rw [upd, if_neg e] at hd; exact h2 j hj hd
  ·by_cases e : j = x
   ·subst e; simp [upd, h0]
   ·rw [upd, if_neg e, h3 j hj, upd, if_neg e]
  ·have := zeros_upd hx h0 (x := -1) (by decide)
   have := zeros_mono (n := f.length) (d := d') (i := x) (x := 1) (by decide)
   omega
 ·rintro ⟨m, hm⟩
  cases m with
  | zero => have : (x : Int) < 0 := hm; omega
  | succ m => exact hf h ⟨m, hm.2⟩

set_option maxRecDepth 100000 in
set_option maxHeartbeats 4000000 in
theorem climb_calls (f : Fo) (hn : f.length ≤ 60) (hp : ∀ i : Nat, i < f.length → -1 ≤ (at_ f i).parent ∧ (at_ f i).parent < f.length) (bd bc bf g base B c : Nat) (A : Option Addr) (hc : f.length ≤ c) (hc2 : c ≤ 9223372036854775807) (k : Nat) :
  ∀ (i : Int) (d : Nat → Int) (w : World), zeros f.length d ≤ k → -1 ≤ i → i < f.length → CInv f bd bc bf g base B c A d w →
   (∀ j, j < f.length → 0 < d j → ∃ m, Up f m j) → (∀ j, j < f.length → d j < 0 → ∃ m, FS.Reach f (m + 1) j i) →
   Calls Tryz.prog 153 #[.int .i64 i, .pointer (some ⟨bd, 0, none⟩), .pointer (some ⟨bc, 0, none⟩), .pointer (some ⟨bf, 0, none⟩)] w fun e w' => ClimbPost f bd bc bf g base B c A d i w e w' := by
 induction k using Nat.strongRecOn with
 | _ k ih =>
  intro i d w hz hi0 hi1 hI hgood hpath
  by_cases h1 : i = -1
  ·subst h1
   have hup : ∃ m, Up f m (-1) := ⟨0, show (-1 : Int) < 0 by decide⟩
   go_enter Tryz.func153, Tryz.ntmps153
   go_wp2_with fail
   go_ret
   exact ⟨true, d, rfl, hI, Off.refl _ _, fun _ => ⟨hup, hgood, fun j hj => Iff.rfl, Nat.le_refl _⟩, fun h => by cases h⟩
  ·obtain ⟨x, rfl⟩ : ∃ x : Nat, i = x := ⟨i.toNat, by omega⟩
   have hx : x < f.length := by omega
   have hx1 : ((x : Int) == -1) = false := by rw [beq_eq_false_iff_ne]; omega
   have c1 := cell_of hI.vd
   have c2 := cell_of hI.vc
   have c3 := cell_of hI.vf
   have c4 := hI.row.cellAt x (by omega)
   rw [dRow_get hx] at c4
   have c5 := hI.row.frozenAt x
   have hI1 := hI.set hx (-1)
   have hI1o : Off (fun b => b = g) w (w.setCell ⟨g, x, none⟩ (.int .i64 (-1))) := Off.setCell _ _ _ rfl
   have d1 := cell_of hI1.vd
   have d2 := cell_of hI1.vc
   have d3 := cell_of hI1.vf
   obtain ⟨b, o, _, _, _, _, rfl, hbB, _, _, _, _, n4, _⟩ := node_at hI1.rd hx
   have hpx := hp x hx
   have hat := at_nat hx
   rw [← hat] at n4
   have hst : ∀ n, 0 ≤ (x : Int) ∧ Up f n (at_ f x).parent → ∃ m, Up f m x := fun n h => ⟨n + 1, h⟩
   have hpath' := hpath x hx
   have hrec : d x = 0 → ∀ w1, CInv f bd bc bf g base B c (some ⟨b, o, none⟩) (upd d x (-1)) w1 → Calls Tryz.prog 153 #[.int .i64 (at_ f x).parent, .pointer (some ⟨bd, 0, none⟩), .pointer (some ⟨bc, 0, none⟩), .pointer (some ⟨bf, 0, none⟩)] w1 fun e w' => ClimbPost f bd bc bf g base B c (some ⟨b, o, none⟩) (upd d x (-1)) (at_ f x).parent w1 e w' := fun h0 w1 hI1 => by
    have hzu := zeros_upd hx h0 (x := -1) (by decide)
    refine ih (k - 1) (by omega) _ _ _ (by omega) hpx.1 hpx.2 hI1 (fun j hj hd => ?_) (fun j hj hd => ?_)
    ·unfold upd at hd
     by_cases e : j = x
     ·rw [if_pos e] at hd; omega
     ·rw [if_neg e] at hd; exact hgood j hj hd
    ·unfold upd at hd
     by_cases e : j = x
     ·subst e
      exact ⟨0, by omega, rfl⟩
     ·rw [if_neg e] at hd
      obtain ⟨m, hm⟩ := hpath j hj hd
      exact ⟨m + 1, hm.snoc (by omega)⟩
   generalize hprr : (at_ f x).parent = pr at *
   have HI := Lib.hid hI; have HI1 := Lib.hid hI1; have HI1o := Lib.hid hI1o; have Hst := Lib.hid hst; have Hgood := Lib.hid hgood; have Hpath := Lib.hid hpath'; have Hrec := Lib.hid hrec; have Hp := Lib.hid hp; have Hpr := Lib.hid hprr
   clear ih hI hI1 hI1o hst hgood hpath hpath' hrec hp hprr hat
   by_cases hpos : 0 < d x
   ·have hup := Hgood.out x hx hpos
    have Hup := Lib.hid hup; clear hup
    generalize d x = dx at *
    go_enter Tryz.func153, Tryz.ntmps153
    go_wp2_with fail
    go_ret
    exact ⟨true, d, rfl, HI.out, Off.refl _ _, fun _ => ⟨Hup.out, Hgood.out, fun j hj => Iff.rfl, Nat.le_refl _⟩, fun h => by cases h⟩
   ·by_cases hneg : d x < 0
    ·obtain ⟨m, hm⟩ := Hpath.out hneg
     have hno := no_cycle hm
     have Hno := Lib.hid hno; clear hno hm
     generalize d x = dx at *
     go_enter Tryz.func153, Tryz.ntmps153
     go_wp2_with fail
     go_ret
     refine ⟨false, d, rfl, HI.out, Off.refl _ _, ?_, fun _ => Hno.out⟩
     intro h
     cases h
    ·have h0 : d x = 0 := by omega
     have Hrec0 := Lib.hid (Hrec.out h0)
     have H0 := Lib.hid h0
     rw [h0] at c4
     clear hpos hneg h0
     go_enter Tryz.func153, Tryz.ntmps153
     go_wp2_with fail
     go_region_with (go_at_call 153; (first | with_reducible refine (Hrec0.out _ HI1.out).mono ?_ | with_reducible refine (Hrec0.out _ HI1.out.drew).mono ?_); go_loud (rintro e w5 ⟨r, d', rfl, hI5, ho5, hr5, hf5⟩; have e1 := cell_of hI5.vd; have e4 := hI5.row.cellAt x (by omega); rw [dRow_get hx] at e4; have e5 := hI5.row.frozenAt x; have HI5 := Lib.hid hI5; have Ho5 := Lib.hid ho5; have Hr5 := Lib.hid hr5; have Hf5 := Lib.hid hf5; clear hI5 ho5 hr5 hf5))
     all_goals go_wp2_with fail
     all_goals
      go_ret
      have Hr5' := Hr5.out; have Hf5' := Hf5.out
      rw [← Hpr.out] at Hr5' Hf5'
      first
       | exact ClimbPost.back hx H0.out HI5.out HI1o.out Ho5.out Hr5' Hf5'
       | exact ClimbPost.back hx H0.out HI5.out (HI1o.out.trans (Off.drew _ _)) Ho5.out Hr5' Hf5'
       | (have hb := ClimbPost.back hx H0.out HI5.out.drew HI1o.out (Ho5.out.trans (Off.drew _ _)) Hr5' Hf5'; exact hb)
       | (have hb := ClimbPost.back hx H0.out HI5.out.drew (HI1o.out.trans (Off.drew _ _)) (Ho5.out.trans (Off.drew _ _)) Hr5' Hf5'; exact hb)
end Go.Proofs.YtmbhkkophkccbaaGreat.FClimb
end
section
namespace Go.Proofs.YtmbhkkophkccbaaGreat.FClimbs
open Go Go.RowKit Go.Proofs.YtmbhkkophkccbaaGreat.Seq WS FS WordIt Mem Rd Word WordHas Shapes FFam FClimb
set_option linter.unusedVariables false
set_option linter.unusedSimpArgs false

theorem run_store_func (P : Program) (w : World) (a : Addr) (m : Mode) (fn : Fn) (first cap : Array Value) : (store a (.func fn first cap) m).run P w = stored P w a (.func fn first cap) m := run_store P w a _ m rfl
attribute [local go_sem] run_store_func
theorem made_dRow (n : Nat) : (madeCells #[Value.int .i64 0] n).toList = dRow n (fun _ => 0) := by
 rw [made_row]; rfl
set_option maxRecDepth 100000 in
set_option maxHeartbeats 4000000 in
theorem climbs_calls (w : World) (v : Value) (f : Fo) (h : RdF w.heap.size w v f) (hn : f.length ≤ 60) (hp : ∀ i : Nat, i < f.length → -1 ≤ (at_ f i).parent ∧ (at_ f i).parent < f.length) :
  Calls Tryz.prog 103 #[v] w fun e w' => e = .returned (.bool (climbsB f)) ∧ Below w.heap.size w w' := by
 have HR := Lib.hid (fun w' hb => h.below nodeE_keeps (w' := w') hb (Nat.le_refl _))
 obtain ⟨A0, c0, rfl, hl0, hc0, _⟩ := h.form
 have hc0' := hc0
 simp only [maxLen] at hc0
 have hmk := fun W => run_make_row' (P := Tryz.prog) 34 3 (.int .i64 0) 8 Tryz.underlying34 info_int rfl .i64 .i64 f.length (by omega) (by omega) W
 have hmf : ∀ (fn : Fn) (first cap : Array Value) (w : World), (Instr.makeFunc fn first cap).run Tryz.prog w = .ok (.func fn first cap) w := fun _ _ _ _ => rfl
 have Hp := Lib.hid hp
 clear h hp
 go_enter Tryz.func103, Tryz.ntmps103
 go_wp2_with fail
 clear hmk hmf
 obtain ⟨W0, hW0⟩ : ∃ W0, (((w.alloc (.cells #[.slice A0 f.length c0] 29)).alloc (.cells (madeCells #[.int .i64 0] f.length) 3)).alloc (.cells #[.slice (some ⟨w.heap.size + 1, 0, none⟩) f.length f.length] 34)).alloc (.cells #[.func (.func 153) #[] #[.pointer (some ⟨w.heap.size + 1 + 1, 0, none⟩), .pointer (some ⟨w.heap.size + 1 + 1 + 1, 0, none⟩), .pointer (some ⟨w.heap.size, 0, none⟩)]] 116) = W0 := ⟨_, rfl⟩
 have hbl : Below w.heap.size w W0 := by rw [← hW0]; exact ((((Below.refl _ _).alloc (Nat.le_refl _) _).alloc (by simp) _).alloc (by simp; omega) _).alloc (by simp; omega) _
 have hI0 : CInv f (w.heap.size + 1 + 1) (w.heap.size + 1 + 1 + 1) w.heap.size (w.heap.size + 1) w.heap.size w.heap.size c0 A0 (fun _ => 0) W0 := by
  refine ⟨?_, ?_, ?_, ?_, HR.out _ hbl, by omega, by omega, by omega, by omega⟩
  ·rw [← hW0]; exact heap_old (heap_new (by simp))
  ·rw [← hW0]; exact heap_new (by simp)
  ·rw [← hW0]; exact heap_old (heap_old (heap_old (heap_new rfl)))
  ·have h0 := World.ownsRow_lit (base := w.heap.size) (e := 3) (size := 1) (w.alloc (.cells #[.slice A0 f.length c0] 29)) (madeCells #[.int .i64 0] f.length) f.length (by simp) (by simp only [maxLen]; omega) (by rw [size_madeCells]; omega)
   rw [made_dRow] at h0
   have e : (w.alloc (.cells #[.slice A0 f.length c0] 29)).heap.size = w.heap.size + 1 := by simp
   rw [e] at h0
   rw [← hW0]
   exact (h0.alloc _).alloc _
 rw [hW0]
 clear hW0
 have HI0 := Lib.hid hI0; have Hbl := Lib.hid hbl
 clear hI0 hbl
 go_loopw [12] (fun i wr => ∃ (k : Nat) (d : Nat → Int), k ≤ f.length ∧ i = .int .i64 k ∧ CInv f (w.heap.size + 1 + 1) (w.heap.size + 1 + 1 + 1) w.heap.size (w.heap.size + 1) w.heap.size w.heap.size c0 A0 d wr ∧ Below w.heap.size w wr ∧
  (∀ j, j < f.length → ¬ d j < 0) ∧ (∀ j, j < f.length → 0 < d j → ∃ m, Up f m j) ∧ (∀ j, j < k → ∃ m, Up f m (j : Int))) (fun i _ => f.length - (intOf i).toNat)
 case atStart => exact ⟨0, fun _ => 0, Nat.zero_le _, rfl, HI0.out, Hbl.out, fun j hj => Int.lt_irrefl 0, fun j hj h => absurd h (Int.lt_irrefl 0), fun j hj => by omega⟩
 case round =>
  obtain ⟨k, d, hk, rfl, h1, h2, h3, h4, h5⟩ := hrel
  by_cases hlt : k < f.length
  ·have hc := climb_calls f hn Hp.out (w.heap.size + 1 + 1) (w.heap.size + 1 + 1 + 1) w.heap.size (w.heap.size + 1) w.heap.size w.heap.size c0 A0 hl0 (by omega) (zeros f.length d) k d wr (Nat.le_refl _) (by omega) (by omega) h1 h4 (fun j hj hd => absurd hd (h3 j hj))
   have e2 := cell_of h1.vc
   have H1 := Lib.hid h1; have H2 := Lib.hid h2; have H3 := Lib.hid h3; have H4 := Lib.hid h4; have H5 := Lib.hid h5; have Hc := Lib.hid hc
   clear h1 h2 h3 h4 h5 hc
   go_wp2_with (go_at_call 153; go_loud (refine (Hc.out).mono ?_; rintro e w5 ⟨r, d', rfl, hI5, ho5, hr5, hf5⟩; have HI5 := Lib.hid hI5; have Ho5 := Lib.hid ho5; have Hr5 := Lib.hid hr5; have Hf5 := Lib.hid hf5; clear hI5 ho5 hr5 hf5; cases r))
   ·go_ret
    refine ⟨ret_bool (climbs_false (fun hcp => Hf5.out (by trivial) (hcp k hlt))).symm, H2.out.trans (Ho5.out.toBelow H2.out.size (fun b hb => by rw [hb]; omega))⟩
   ·obtain ⟨g1, g2, g3, g4⟩ := Hr5.out (by trivial)
    go_roundw
    case rel =>
     refine ⟨k + 1, d', by omega, by go_num, HI5.out, H2.out.trans (Ho5.out.toBelow H2.out.size (fun b hb => by rw [hb]; omega)), fun j hj hd => by have h7 := H3.out j hj; have h8 := (g3 j hj).1 hd; omega, g2, fun j hj => ?_⟩
     by_cases e : j = k
     ·subst e; exact g1
     ·exact H5.out j (by omega)
    case measure => simp [intOf]; omega
  ·obtain rfl : k = f.length := by omega
   have hcl : climbsB f = true := climbs_true (fun i hi => h5 i hi)
   have H2 := Lib.hid h2; have Hcl := Lib.hid hcl
   clear h1 h2 h3 h4 h5 hcl
   go_wp2
   go_ret
   exact ⟨ret_bool Hcl.out.symm, H2.out⟩
end Go.Proofs.YtmbhkkophkccbaaGreat.FClimbs
end
