/- (*strings.byteStringReplacer).Replace. -/
import Derived.Test.YtbbompmpecblgaaReplB
import Derived.Test.YtbbompmpecblgaaShelfC
import Derived.Laws.CopyOwn
import Derived.StillTailTactics
import Derived.Deep.QuietTactic
import Derived.BigQuiet
import Derived.Deep.DeepCutAuto
import Derived.IntWalk
namespace Go.Proofs.Ytbbompmpecblgaa.ReplR
open Go Go.RowKit Go.Proofs.Ytbbompmpecblgaa.Seq Go.Proofs.Ytbbompmpecblgaa.Mem Go.Proofs.Ytbbompmpecblgaa.Build Go.Proofs.Ytbbompmpecblgaa.Repl Go.Proofs.Ytbbompmpecblgaa.ReplB
set_option linter.unusedVariables false
set_option linter.unusedSimpArgs false

/-! The plain side. -/
def rp1 (ps : Pairs) (c : UInt8) : List UInt8 := (lkd ps c).getD [c]
def rp (ps : Pairs) (l : List UInt8) : List UInt8 := l.flatMap (rp1 ps)
theorem rp_snoc (ps : Pairs) (l : List UInt8) (c : UInt8) : rp ps (l ++ [c]) = rp ps l ++ rp1 ps c := by unfold rp; rw [List.flatMap_append]; simp
/-- What a byte gains. -/
def gn (ps : Pairs) (c : UInt8) : Int := ((rp1 ps c).length : Int) - 1
def sumA (ps : Pairs) (l : List UInt8) (ks : List UInt8) : Int := (ks.map (fun c => (l.count c : Int) * gn ps c)).sum
theorem sumA_nil (ps : Pairs) (ks : List UInt8) : sumA ps [] ks = 0 := by
  unfold sumA
  induction ks with
  | nil => rfl
  | cons k ks ih => rw [List.map_cons, List.sum_cons, ih]; simp
theorem sumA_cons (ps : Pairs) (c : UInt8) (l : List UInt8) : ∀ (ks : List UInt8), ks.Nodup → sumA ps (c :: l) ks = sumA ps l ks + if c ∈ ks then gn ps c else 0
  | [], _ => rfl
  | k :: ks, h => by
    rw [List.nodup_cons] at h
    have ih := sumA_cons ps c l ks h.2
    unfold sumA at ih ⊢
    rw [List.map_cons, List.sum_cons, List.map_cons, List.sum_cons, ih]
    by_cases hc : c = k
    · subst hc
      rw [if_neg h.1, if_pos (by simp), List.count_cons_self]
      have : ((l.count c + 1 : Nat) : Int) * gn ps c = (l.count c : Int) * gn ps c + gn ps c := by rw [Int.natCast_add, Int.add_mul]; simp
      rw [this]; omega
    · rw [List.count_cons_of_ne hc]
      by_cases hm : c ∈ ks
      · rw [if_pos hm, if_pos (by simp [hm])]; omega
      · rw [if_neg hm, if_neg (by simp [hm, hc])]; omega
theorem sumA_all {ps : Pairs} {ks : List UInt8} (hn : ks.Nodup) (hk : ∀ c, c ∈ ks ↔ (lkd ps c).isSome = true) : ∀ l : List UInt8, (l.length : Int) + sumA ps l ks = (rp ps l).length
  | [] => by rw [sumA_nil]; rfl
  | c :: l => by
    have ih := sumA_all hn hk l
    rw [sumA_cons _ _ _ _ hn]
    unfold rp at ih ⊢
    rw [List.flatMap_cons, List.length_append, List.length_cons]
    have hg : (if c ∈ ks then gn ps c else 0) = gn ps c := by
      by_cases h : c ∈ ks
      · rw [if_pos h]
      · rw [if_neg h]
        have : lkd ps c = none := by
          cases hl : lkd ps c with
          | none => rfl
          | some r => exact absurd ((hk c).2 (by rw [hl]; rfl)) h
        unfold gn rp1
        rw [this]; rfl
    rw [hg]
    unfold gn
    omega
theorem rp_same {ps : Pairs} {l : List UInt8} (h : ∀ c ∈ l, lkd ps c = none) : rp ps l = l := by
  unfold rp
  induction l with
  | nil => rfl
  | cons c l ih => rw [List.flatMap_cons, ih (fun d hd => h d (by simp [hd]))]; unfold rp1; rw [h c (by simp)]; rfl
theorem keys_iff (ps : Pairs) (c : UInt8) : c ∈ keysOf ps ↔ (lkd ps c).isSome = true := by
  unfold keysOf lkd
  rw [List.mem_reverse, Option.isSome_map, List.find?_isSome]
  simp only [List.mem_map]
  constructor
  · rintro ⟨p, hp, rfl⟩; exact ⟨p, hp, by simp⟩
  · rintro ⟨p, hp, h⟩; exact ⟨p, hp, by simpa using h⟩
theorem lkd_mem {ps : Pairs} {c : UInt8} {r : List UInt8} (h : lkd ps c = some r) : (c, r) ∈ ps := by
  unfold lkd at h
  rw [Option.map_eq_some_iff] at h
  obtain ⟨p, hp, rfl⟩ := h
  have h1 := List.mem_of_find?_eq_some hp
  have h2 := List.find?_some hp
  simp at h2
  rw [← h2]; exact h1
theorem keys_nodup {ps : Pairs} (G : ReplB.Good ps) : (keysOf ps).Nodup := by unfold keysOf List.Nodup; rw [List.pairwise_reverse]; exact List.Pairwise.imp (fun h => h.symm) G.once
theorem gn_bound {ps : Pairs} (G : ReplB.Good ps) (c : UInt8) : -1 ≤ gn ps c ∧ gn ps c ≤ 999 := by
  unfold gn rp1
  cases h : lkd ps c with
  | none => simp
  | some r =>
    have h1 : r.length ≤ 1000 := (G.long _ (lkd_mem h)).2
    simp
    omega
theorem rp1_bound {ps : Pairs} (G : ReplB.Good ps) (c : UInt8) : (rp1 ps c).length ≤ 1000 := by have h := (gn_bound G c).2; unfold gn at h; omega
theorem rp_bound {ps : Pairs} (G : ReplB.Good ps) : ∀ l : List UInt8, (rp ps l).length ≤ l.length * 1000
  | [] => by simp [rp]
  | c :: l => by
    have := rp_bound G l
    have := rp1_bound G c
    unfold rp at *
    rw [List.flatMap_cons, List.length_append, List.length_cons, Nat.add_mul]
    omega
theorem sumA_bound {ps : Pairs} (G : ReplB.Good ps) (l : List UInt8) (hl : l.length ≤ 1000) : ∀ ks : List UInt8, -1000 * (ks.length : Int) ≤ sumA ps l ks ∧ sumA ps l ks ≤ 1000000 * (ks.length : Int)
  | [] => by simp [sumA]
  | k :: ks => by
    have ih := sumA_bound G l hl ks
    have hb := gn_bound G k
    have hc := List.count_le_length (a := k) (l := l)
    unfold sumA at ih ⊢
    rw [List.map_cons, List.sum_cons, List.length_cons]
    have h1 : (l.count k : Int) * gn ps k ≤ 1000 * 1000 := by
      by_cases h0 : 0 ≤ gn ps k
      · exact Int.mul_le_mul (by omega) (by omega) h0 (by decide)
      · have : (l.count k : Int) * gn ps k ≤ 0 := Int.mul_nonpos_of_nonneg_of_nonpos (by omega) (by omega)
        omega
    have h2 : -1000 ≤ (l.count k : Int) * gn ps k := by
      by_cases h0 : 0 ≤ gn ps k
      · have : 0 ≤ (l.count k : Int) * gn ps k := Int.mul_nonneg (by omega) h0
        omega
      · have : gn ps k = -1 := by omega
        rw [this]; omega
    omega
/-- The buffer when ys is written. -/
def bufL (ys : List UInt8) (N : Nat) : List Value := Lib.byteCells ys ++ List.replicate (N - ys.length) (.int .u8 0)
theorem bufL_length {ys : List UInt8} {N : Nat} (h : ys.length ≤ N) : (bufL ys N).length = N := by unfold bufL; rw [List.length_append, Lib.byteCells_length, List.length_replicate]; omega
theorem bufL_splice {ys r : List UInt8} {N : Nat} (h : ys.length + r.length ≤ N) : splice (bufL ys N) ys.length (Lib.byteCells r) = bufL (ys ++ r) N := by
  unfold splice bufL
  rw [Lib.byteCells_length, List.take_left' (Lib.byteCells_length ys), List.drop_append, List.drop_eq_nil_of_le (by rw [Lib.byteCells_length]; omega), Lib.byteCells_length, List.drop_replicate, Lib.byteCells_append, List.append_assoc, List.nil_append, List.length_append]
  congr 3
  omega
theorem bufL_set {ys : List UInt8} {N : Nat} {c : UInt8} (h : ys.length < N) : (bufL ys N).set ys.length (.int .u8 (c.toNat : Int)) = bufL (ys ++ [c]) N := by
  have := bufL_splice (ys := ys) (r := [c]) (N := N) (by simp; omega)
  rw [← this]
  have hl := bufL_length (ys := ys) (N := N) (by omega)
  rw [List.set_eq_take_append_cons_drop, if_pos (by omega)]
  rfl
theorem bufL_full {ys : List UInt8} : bufL ys ys.length = Lib.byteCells ys := by unfold bufL; rw [Nat.sub_self]; simp
theorem bufL_zero (N : Nat) : (madeCells #[Value.int .u8 0] N) = (bufL [] N).toArray := by
  apply Array.ext'
  rw [toList_madeCells_one]
  unfold bufL
  simp [Lib.byteCells]

/-! The walk. -/
theorem tab_slot {T : Nat} {ps : Pairs} {ks : List UInt8} {F : Nat → Prop} {w : World} (h : Table T ps ks F w) (c : UInt8) :
    (lkd ps c = none → w.cell? ⟨T, c.toNat, none⟩ = some (.slice none 0 0)) ∧ ∀ r, lkd ps c = some r → ∃ g cap, w.cell? ⟨T, c.toNat, none⟩ = some (.slice (some ⟨g, 0, none⟩) r.length cap) ∧ g < w.heap.size ∧ ∀ j (h : j < r.length), w.cell? ⟨g, j, none⟩ = some (.int .u8 (r[j].toNat : Int)) := by
  obtain ⟨tb, tr, h1, h2, h3, h4, h5⟩ := h
  have hc := UInt8.toNat_lt c
  have hcell : w.cell? ⟨T, c.toNat, none⟩ = some (tb c.toNat) := by rw [cell_of_row _ _ _ _ _ _ h1, tab_get _ _ (by omega)]
  refine ⟨fun h => by rw [hcell, (h3 c).1 h], fun r hr => ?_⟩
  obtain ⟨g, cap, e1, e2, e3, e4, e5, e6⟩ := (h3 c).2 r hr
  exact ⟨g, cap, by rw [hcell, e1], e5, e6⟩
theorem tab_keys {T : Nat} {ps : Pairs} {ks : List UInt8} {F : Nat → Prop} {w : World} (h : Table T ps ks F w) (hk : 0 < ks.length) :
    ∃ g cap, w.cell? ⟨T, 256, none⟩ = some (.slice (some ⟨g, 0, none⟩) ks.length cap) ∧ ∀ j (h : j < ks.length), w.cell? ⟨g, j, none⟩ = some (.string ⟨#[ks[j]]⟩) := by
  obtain ⟨tb, tr, h1, h2, h3, h4, h5⟩ := h
  have hcell : w.cell? ⟨T, 256, none⟩ = some tr := by rw [cell_of_row _ _ _ _ _ _ h1, tab_last]
  have hc := fun gg hgg i s hi => h4.cells (g := gg) hgg i s hi
  rcases h4.2 with ⟨rfl, h0⟩ | ⟨g, cap, cur, rfl, _⟩
  · omega
  · refine ⟨g, cap, hcell, fun i hi => ?_⟩
    have := hc g rfl i (.string ⟨#[ks[i]]⟩) (by rw [List.getElem?_map, List.getElem?_eq_getElem hi]; rfl)
    rwa [Addr.add_lit, Nat.zero_add] at this
theorem drewN_below {B : Nat} {a w : World} (h : Below B a w) (n : Nat) : Below B a (w.drewN n) := ⟨h.os, h.tape, h.output, h.size, h.block⟩
theorem ret_s {a b : ByteArray} (h : a = b) : Ending.returned (.string a) = .returned (.string b) := by rw [h]
theorem rp_prefix (ps : Pairs) (l : List UInt8) (k : Nat) : (rp ps (l.take k)).length ≤ (rp ps l).length := by
  conv => rhs; rw [← List.take_append_drop k l]
  unfold rp
  rw [List.flatMap_append, List.length_append]
  omega
theorem bytes_one (l : List UInt8) : ∀ v ∈ Lib.byteCells l, v.oneCell' = true := by
  intro v hv
  obtain ⟨b, _, rfl⟩ := List.mem_map.1 hv
  rfl
def RoadPost (w : World) (ps : Pairs) (l : List UInt8) (a b : Value) (wx : World) : Prop :=
  a = .int .i64 ((rp ps l).length : Nat) ∧ (∃ bb : Bool, b = .bool bb ∧ (bb = false → rp ps l = l)) ∧ Below w.heap.size w wx
set_option maxRecDepth 100000 in
set_option maxHeartbeats 8000000 in
theorem bsr_calls (w : World) (ps : Pairs) (G : ReplB.Good ps) (T : Nat) (F : Nat → Prop) (hT : Table T ps (keysOf ps) F w) (hF : ∀ k, F k → k < w.heap.size) (s : ByteArray) (hs : s.size ≤ 1000) :
    Calls Try.prog 213 #[.pointer (some ⟨T, 0, none⟩), .string s] w fun e w' => e = .returned (.string ⟨(rp ps s.data.toList).toArray⟩) ∧ Below w.heap.size w w' := by
  have HT := Lib.hid (fun w' (hb : Below w.heap.size w w') => hT.keep (F' := F) (fun k hk => hb.block k (hF k hk)) (fun k hk => hk))
  have hkl : (keysOf ps).length = ps.length := by simp [keysOf]
  have hk0 : 0 < (keysOf ps).length := by have := G.two; omega
  have hk1 : (keysOf ps).length ≤ 100 := by have := G.few; omega
  have hsl := Lib.size_eq s
  obtain ⟨g3, c3, q1, q2⟩ := tab_keys hT hk0
  have hg3 := World.block_lt_of_cell? w _ (q2 0 hk0)
  have HQ2 := Lib.hid (fun w' (hb : Below w.heap.size w w') k (h : k < (keysOf ps).length) => cell_below hb (q2 k h) hg3)
  have HTl := Lib.hid (World.block_lt_of_cell? w _ q1)
  have HG := Lib.hid G
  have Hsl := Lib.hid hsl
  clear hT hF G hsl hkl q2 hg3
  obtain ⟨l, hl⟩ : ∃ l, l = s.data.toList := ⟨_, rfl⟩
  obtain ⟨K, hK⟩ : ∃ K, K = (keysOf ps).length := ⟨_, rfl⟩
  have Hl := Lib.hid hl; have HK := Lib.hid hK
  rw [← hK] at hk0 hk1 q1
  rw [← hl]
  clear hl hK
  go_enter Try.func213, Try.ntmps213
  go_upto_if 26 with fail
  go_cut [5, 6] (fun a b wx => RoadPost w ps l a b wx)
  case first =>
    by_cases hroad : K * 8 ≤ s.size
    · have h26 : decide ((K : Int) * 8 ≤ (s.size : Int)) = true := decide_eq_true (by omega)
      go_wp2_with fail
      clear h26
      go_loopw [5, 6, 32] (fun a b i wr => ∃ (k : Nat) (z : Int) (bb : Bool), k ≤ K ∧ i = .int .i64 k ∧ a = .int .i64 z ∧ b = .bool bb ∧ Hid (z = (s.size : Int) + sumA ps l ((keysOf ps).take k)) ∧ Hid (bb = ((keysOf ps).take k).any (fun c => decide (0 < l.count c))) ∧ Below w.heap.size w wr) (fun _ _ i _ => K - (intOf i).toNat)
      case atStart => exact ⟨0, _, _, Nat.zero_le _, rfl, rfl, rfl, Lib.hid (by simp [sumA]), Lib.hid rfl, Below.refl _ _⟩
      case round =>
        obtain ⟨k, z, bb, hk, rfl, rfl, rfl, hz, hbb, hbw⟩ := hrel
        by_cases hlt : k < K
        · have hkk : k < (keysOf ps).length := by rw [← HK.out]; exact hlt
          have e1 := HQ2.out wr hbw k hkk
          have hmem := (keys_iff ps (keysOf ps)[k]).1 (List.getElem_mem hkk)
          have htk : (keysOf ps).take (k + 1) = (keysOf ps).take k ++ [(keysOf ps)[k]] := List.take_succ_eq_append_getElem hkk
          generalize (keysOf ps)[k] = x at *
          obtain ⟨s1, hs1⟩ : ∃ s1 : ByteArray, s1 = ⟨#[x]⟩ := ⟨_, rfl⟩
          rw [← hs1] at e1
          have hix : ∀ W, (Instr.index 9 (.string s1) (.int .i64 0)).run Try.prog W = .ok (.int .u8 x.toNat) W := fun W => by rw [hs1]; rfl
          obtain ⟨r, hr⟩ := Option.isSome_iff_exists.1 hmem
          obtain ⟨g, cap, t1, -, -⟩ := (tab_slot (HT.out wr hbw) x).2 r hr
          have hx2 : (x.toNat : Int) < 256 := by have := UInt8.toNat_lt x; omega
          have hcl := List.count_le_length (a := x) (l := l)
          have hgb := gn_bound HG.out x
          have hgn : gn ps x = (r.length : Int) - 1 := by unfold gn rp1; rw [hr]; rfl
          have hcn : ∀ W, Calls Try.prog 215 #[.string s, .string s1] W fun e w' => e = .returned (.int .i64 (l.count x : Nat)) ∧ W = w' := fun W => by
            rw [hs1, Hl.out]
            exact (Try.strings_Count_one s x W).mono (fun e w' ⟨h1, h2⟩ => ⟨h1, h2.symm⟩)
          have hsa : sumA ps l ((keysOf ps).take (k + 1)) = sumA ps l ((keysOf ps).take k) + (l.count x : Int) * gn ps x := by
            rw [htk]; unfold sumA; rw [List.map_append, List.sum_append]; simp
          have hany : ((keysOf ps).take (k + 1)).any (fun c => decide (0 < l.count c)) = (((keysOf ps).take k).any (fun c => decide (0 < l.count c)) || decide (0 < l.count x)) := by rw [htk, List.any_append]; simp
          have hll : l.length = s.size := by rw [Hsl.out, Hl.out]
          have hb1 := sumA_bound HG.out l (by omega) ((keysOf ps).take k)
          have hb2 := sumA_bound HG.out l (by omega) ((keysOf ps).take (k + 1))
          have hl1 : ((keysOf ps).take k).length ≤ 100 := by rw [List.length_take]; omega
          have hl2 : ((keysOf ps).take (k + 1)).length ≤ 100 := by rw [List.length_take]; have := HK.out; omega
          generalize hcnt : l.count x = cn at *
          generalize hp1 : (cn : Int) * gn ps x = p1 at *
          generalize hg1 : gn ps x = g1 at *
          have hz2 : z + p1 = (s.size : Int) + sumA ps l ((keysOf ps).take (k + 1)) := by rw [hz.out, hsa]; omega
          have hzb : -200000 ≤ z ∧ z ≤ 200000000 := by rw [hz.out]; omega
          have hzb2 : -200000 ≤ z + p1 ∧ z + p1 ≤ 200000000 := by rw [hz2]; omega
          obtain ⟨z2, hz3⟩ : ∃ z2, z2 = z + p1 := ⟨_, rfl⟩
          rw [← hz3] at hz2 hzb2
          generalize hLL : r.length = LL at *
          have hw1 : IntKind.i64.wrap ((LL : Int) - 1) = g1 := by rw [IntWalk.i64_in _ (by omega)]; omega
          have hw2 : IntKind.i64.wrap ((cn : Int) * g1) = p1 := by rw [hp1]; exact IntWalk.i64_in _ (by omega)
          have hw3 : IntKind.i64.wrap (z + p1) = z2 := by rw [← hz3]; exact IntWalk.i64_in _ (by omega)
          have Hcn := Lib.hid hcn; have Hz2 := Lib.hid hz2; have Hany := Lib.hid hany; have Hbw := Lib.hid hbw; have Hp1 := Lib.hid hp1; have Hz3 := Lib.hid hz3
          clear hcn hz2 hany hbw hp1 hz3 hsa hb1 hb2 hl1 hl2 hgb hcl hgn hg1 hcnt hLL hs1 hmem htk hr hll hzb hzb2 hkk
          by_cases h0 : cn = 0
          · subst h0
            clear hw1 hw2 hw3
            go_wp2_with (go_at_call 215; with_reducible refine (Hcn.out _).mono ?_; rintro e w5 ⟨rfl, rfl⟩)
            go_roundw
            case rel => exact ⟨k + 1, z, bb, by omega, by go_num, rfl, rfl, Lib.hid (by have := Hz2.out; have := Hz3.out; have := Hp1.out; simp at this; omega), Lib.hid (by rw [Hany.out, ← hbb.out]; simp), Hbw.out⟩
            case measure => simp [intOf]; omega
          · have h1 : ((cn : Int) != 0) = true := by rw [bne_iff_ne]; omega
            go_wp2_with (go_at_call 215; with_reducible refine (Hcn.out _).mono ?_; rintro e w5 ⟨rfl, rfl⟩)
            go_quiet (fail)
            go_wp2_with fail
            go_roundw
            case rel => exact ⟨k + 1, z2, true, by omega, by go_num, rfl, rfl, Lib.hid Hz2.out, Lib.hid (by rw [Hany.out, decide_eq_true (show 0 < cn by omega)]; simp), drewN_below Hbw.out _⟩
            case measure => simp [intOf]; omega
        · obtain rfl : k = K := by omega
          have Hbw := Lib.hid hbw
          clear hbw hlt
          go_wp2_with fail
          go_meet
          have hl1 : z = (rp ps l).length := by
            have h2 := sumA_all (keys_nodup HG.out) (keys_iff ps) l
            have := hz.out
            rw [HK.out, List.take_length] at this
            rw [this, ← h2, Hl.out, Hsl.out]
          refine ⟨by rw [hl1], ⟨bb, rfl, fun hf => rp_same (fun c hc => ?_)⟩, Hbw.out⟩
          have h3 := hbb.out
          rw [HK.out, List.take_length, hf] at h3
          cases hq : lkd ps c with
          | none => rfl
          | some r =>
            have h4 : c ∈ keysOf ps := (keys_iff ps c).2 (by rw [hq]; rfl)
            have h5 := List.any_eq_false.1 h3.symm c h4
            simp at h5
            exact absurd hc h5
    · have h26 : decide ((K : Int) * 8 ≤ (s.size : Int)) = false := decide_eq_false (by omega)
      have hnn : ∀ (w : World) (a : Option Addr) (n c n' c' : Nat), (binOp .neq 23 (.slice a n c) (.slice none n' c')).run Try.prog w = .ok (.bool (!a.isNone)) w := fun w a n c n' c' => run_neq_slice_nil_any w _ _ a n c n' c' Try.underlying23
      go_wp2_with fail
      clear h26
      go_loop [5, 6, 10] (fun a b i => ∃ (k : Nat) (z : Int) (bb : Bool), k ≤ s.size ∧ i = .int .i64 k ∧ a = .int .i64 z ∧ b = .bool bb ∧ Hid (z = (s.size : Int) - k + (rp ps (l.take k)).length) ∧ Hid (bb = (l.take k).any (fun c => (lkd ps c).isSome))) (fun _ _ i => s.size - (intOf i).toNat)
      case atStart => exact ⟨0, _, _, Nat.zero_le _, rfl, rfl, rfl, Lib.hid (by simp [rp]), Lib.hid rfl⟩
      case round =>
        obtain ⟨k, z, bb, hk, rfl, rfl, rfl, hz, hbb⟩ := hrel
        have hll : l.length = s.size := by rw [Hsl.out, Hl.out]
        by_cases hlt : k < s.size
        · have htk : l.take (k + 1) = l.take k ++ [s[k]] := by rw [List.take_succ_eq_append_getElem (by omega)]; simp [Hl.out]; rfl
          have hrs : rp ps (l.take (k + 1)) = rp ps (l.take k) ++ rp1 ps s[k] := by rw [htk, rp_snoc]
          have hany : (l.take (k + 1)).any (fun c => (lkd ps c).isSome) = ((l.take k).any (fun c => (lkd ps c).isSome) || (lkd ps s[k]).isSome) := by rw [htk, List.any_append]; simp
          have hx2 : (s[k].toNat : Int) < 256 := by have := UInt8.toNat_lt s[k]; omega
          have hb1 := rp_bound HG.out (l.take k)
          have hb2 := rp1_bound HG.out s[k]
          have hl1 : (l.take k).length ≤ 1000 := by rw [List.length_take]; omega
          have hl2 : (l.take k).length = k := by rw [List.length_take]; omega
          have hts := tab_slot (HT.out w (Below.refl _ _)) s[k]
          have Hrs := Lib.hid hrs; have Hany := Lib.hid hany
          clear hany hrs htk
          cases hq : lkd ps s[k] with
          | none =>
            have t1 := hts.1 hq
            have hr1 : (rp1 ps s[k]).length = 1 := by unfold rp1; rw [hq]; rfl
            have Hr1 := Lib.hid hr1; have Hq := Lib.hid hq
            clear hts hq hr1 hb1 hb2 hl1 hl2
            go_wp2_with fail
            go_round
            case rel => exact ⟨k + 1, z, bb, by omega, by go_num, rfl, rfl, Lib.hid (by rw [hz.out, Hrs.out, List.length_append, Hr1.out]; omega), Lib.hid (by rw [Hany.out, ← hbb.out, Hq.out]; simp)⟩
            case measure => simp [intOf]; omega
          | some r =>
            obtain ⟨g, cap, t1, -, -⟩ := hts.2 r hq
            have hr1 : (rp1 ps s[k]).length = r.length := by unfold rp1; rw [hq]; rfl
            have hzb : -1000 ≤ z ∧ z ≤ 1001000 := by rw [hz.out]; omega
            have hrl : r.length ≤ 1000 := by omega
            have hrl2 : 1 ≤ r.length := by have := (HG.out.long _ (lkd_mem hq)).1; simp at this; omega
            have Hr1 := Lib.hid hr1; have Hq := Lib.hid hq
            clear hts hq hr1 hb1 hb2 hl1 hl2
            go_wp2_with fail
            go_round
            case rel => exact ⟨k + 1, z + ((r.length : Int) - 1), true, by omega, by go_num, by go_num, rfl, Lib.hid (by rw [hz.out, Hrs.out, List.length_append, Hr1.out]; omega), Lib.hid (by rw [Hany.out, Hq.out]; simp)⟩
            case measure => simp [intOf]; omega
        · obtain rfl : k = s.size := by omega
          clear hlt
          go_wp2_with fail
          go_meet
          have hz1 := hz.out
          have hb3 := hbb.out
          rw [List.take_of_length_le (by omega)] at hz1 hb3
          refine ⟨by rw [hz1]; congr 1; omega, ⟨bb, rfl, fun hf => rp_same (fun c hc => ?_)⟩, Below.refl _ _⟩
          rw [hf] at hb3
          have h5 := List.any_eq_false.1 hb3.symm c hc
          cases hq : lkd ps c with
          | none => rfl
          | some r => rw [hq] at h5; simp at h5
  case rest =>
    obtain ⟨rfl, ⟨bb, rfl, hbb⟩, hbw⟩ := hcut
    have hN : (rp ps l).length ≤ 1000000 := by
      have := rp_bound HG.out l
      have : l.length = s.size := by rw [Hsl.out, Hl.out]
      omega
    cases bb with
    | false =>
      have Hr := Lib.hid (hbb rfl); have Hbw := Lib.hid hbw
      clear hbb hbw
      go_wp2_with fail
      go_ret
      exact ⟨ret_s (by rw [Hr.out, Hl.out]), Hbw.out⟩
    | true =>
      clear hbb
      have Hbw := Lib.hid hbw
      clear hbw
      obtain ⟨N, hNN⟩ : ∃ N, N = (rp ps l).length := ⟨_, rfl⟩
      rw [← hNN] at hN
      rw [← hNN]
      have HN := Lib.hid hNN
      clear hNN
      have hmk := fun W => run_make_row' (P := Try.prog) 23 5 (.int .u8 0) 1 Try.underlying23 info_u8 rfl .i64 .i64 N (by omega) (by omega) W
      have hnn : ∀ (w : World) (a : Option Addr) (n c n' c' : Nat), (binOp .neq 23 (.slice a n c) (.slice none n' c')).run Try.prog w = .ok (.bool (!a.isNone)) w := fun w a n c n' c' => run_neq_slice_nil_any w _ _ a n c n' c' Try.underlying23
      go_wp2_with fail
      clear hmk
      rw [bufL_zero]
      obtain ⟨gb, hgb⟩ : ∃ gb, gb = wc.heap.size := ⟨_, rfl⟩
      obtain ⟨W0, hW0⟩ : ∃ W0, wc.alloc (.cells (bufL [] N).toArray 5) = W0 := ⟨_, rfl⟩
      have hbuf : W0.heap[gb]? = some (.cells (bufL [] N).toArray 5 (0, 0)) := by rw [← hW0]; exact heap_new hgb
      have hb0 : Below w.heap.size w W0 := by rw [← hW0]; exact Hbw.out.alloc Hbw.out.size _
      have hgw : w.heap.size ≤ gb := by rw [hgb]; exact Hbw.out.size
      rw [hW0, ← hgb]
      have Hbuf := Lib.hid hbuf; have Hb0 := Lib.hid hb0
      clear hbuf hb0 hW0 hgb
      go_loopw [13, 14] (fun a i wr => ∃ (k m : Nat), k ≤ s.size ∧ i = .int .i64 k ∧ a = .int .i64 m ∧ Hid (m = (rp ps (l.take k)).length) ∧ Hid (wr.heap[gb]? = some (.cells (bufL (rp ps (l.take k)) N).toArray 5 (0, 0))) ∧ Below w.heap.size w wr) (fun _ i _ => s.size - (intOf i).toNat)
      case atStart => exact ⟨0, 0, Nat.zero_le _, rfl, rfl, Lib.hid (by simp [rp]), Lib.hid (by simpa [rp] using Hbuf.out), Hb0.out⟩
      case round =>
        obtain ⟨k, m, hk, rfl, rfl, hm, hbuf, hbw⟩ := hrel
        have hll : l.length = s.size := by rw [Hsl.out, Hl.out]
        by_cases hlt : k < s.size
        · have htk : l.take (k + 1) = l.take k ++ [s[k]] := by rw [List.take_succ_eq_append_getElem (by omega)]; simp [Hl.out]; rfl
          have hrs : rp ps (l.take (k + 1)) = rp ps (l.take k) ++ rp1 ps s[k] := by rw [htk, rp_snoc]
          have hx2 : (s[k].toNat : Int) < 256 := by have := UInt8.toNat_lt s[k]; omega
          have hts := tab_slot (HT.out wr hbw) s[k]
          have hpre := rp_prefix ps l (k + 1)
          rw [hrs, List.length_append, ← hm.out, ← HN.out] at hpre
          have Hrs := Lib.hid hrs
          clear hrs htk
          cases hq : lkd ps s[k] with
          | none =>
            have t1 := hts.1 hq
            have hr1 : rp1 ps s[k] = [s[k]] := by unfold rp1; rw [hq]; rfl
            rw [hr1] at hpre
            have hmN : m < N := by rw [List.length_singleton] at hpre; omega
            have Hr1 := Lib.hid hr1; have Hq := Lib.hid hq; have Hbw := Lib.hid hbw
            have b1 : wr.cell? ⟨gb, m, none⟩ = some (.int .u8 0) := by
              rw [cell_of_row _ _ _ _ _ _ hbuf.out, hm.out]
              unfold bufL
              simp [Lib.byteCells_length, List.getElem?_append_right, List.getElem?_replicate]
              rw [← hm.out]; omega
            have b2 := free_of hbuf.out m
            clear hts hq hr1 hpre hbw
            go_wp2_with fail
            go_roundw
            case rel =>
              refine ⟨k + 1, m + 1, by omega, by go_num, by go_num, Lib.hid (by rw [Hrs.out, Hr1.out, List.length_append, ← hm.out]; rfl), Lib.hid ?_, Hbw.out.setCell hgw _⟩
              rw [setCell_row hbuf.out, Hrs.out, Hr1.out, hm.out, List.setIfInBounds_toArray, bufL_set (by rw [← hm.out]; exact hmN)]
            case measure => simp [intOf]; omega
          | some r =>
            obtain ⟨g, cap, t1, hgl, t2⟩ := hts.2 r hq
            have hr1 : rp1 ps s[k] = r := by unfold rp1; rw [hq]; rfl
            rw [hr1] at hpre
            have hrl2 : 2 ≤ r.length := (HG.out.long _ (lkd_mem hq)).1
            have hmN : m < N := by omega
            have hsrc : ∀ (W : World), W.heap = wr.heap → ∀ j v, (Lib.byteCells r)[j]? = some v → W.cell? ((⟨g, 0, none⟩ : Addr).add j) = some v := fun W hW j v hj => by
              rw [Addr.add_lit, Nat.zero_add, cell_same (w := wr) (by rw [hW])]
              unfold Lib.byteCells at hj
              rw [List.getElem?_map] at hj
              obtain ⟨y, hy, rfl⟩ := Option.map_eq_some_iff.1 hj
              obtain ⟨hj2, rfl⟩ := List.getElem?_eq_some_iff.1 hy
              exact t2 j hj2
            have hn1 : (Lib.byteCells r).length = Nat.min r.length (N - m) := by rw [Lib.byteCells_length]; exact (Nat.min_eq_left (by omega)).symm
            have hn2 : m + (Lib.byteCells r).length ≤ (bufL (rp ps (l.take k)) N).length := by rw [Lib.byteCells_length, bufL_length (by rw [← hm.out]; omega)]; exact hpre
            have hw1 : IntKind.i64.wrap ((m : Int) + r.length) = ((m + r.length : Nat) : Int) := by rw [IntWalk.i64_in _ (by omega)]; omega
            have hmN2 : ¬ N = m := by omega
            have hmN3 : (m : Int) < N := by omega
            have hmN4 : (m : Int) ≤ N := by omega
            have hlb := Lib.byteCells_length r
            have Hr1 := Lib.hid hr1; have Hq := Lib.hid hq; have Hbw := Lib.hid hbw; have Hsrc := Lib.hid hsrc; have Hn1 := Lib.hid hn1; have Hn2 := Lib.hid hn2; have Hlb := Lib.hid hlb; have Hpre := Lib.hid hpre
            clear hts hq hr1 hbw t2 hsrc hn1 hn2 hlb hpre
            go_wp2_with fail
            go_region_law (refine step_copy_splice rfl (.tmp 105) (.tmp 111) 23 23 rfl 5 Try.underlying23 (by kernel_rfl) (some ⟨gb, m, none⟩) (some ⟨g, 0, none⟩) (N - m) (N - m) r.length cap (by simp [Act.eval, Act.put]) (by simp [Act.eval, Act.put]) gb m (bufL (rp ps (l.take k)) N) 5 hbuf.out (Lib.byteCells r) Hn1.out (fun _ => ⟨rfl, ⟨g, 0, none⟩, rfl, Hsrc.out _ rfl⟩) Hn2.out (bytes_one r) w.heap.size w (by first | exact Hbw.out | exact Hbw.out.drew) hgw ?_; intro w4 hg4 hb4; rw [Hlb.out])
            all_goals
              go_wp2_with fail
              go_roundw
              case rel =>
                refine ⟨k + 1, m + r.length, by omega, by go_num, by go_num, Lib.hid (by rw [Hrs.out, Hr1.out, List.length_append, ← hm.out]), Lib.hid ?_, hb4⟩
                have h5 := hg4.out
                rw [hm.out, bufL_splice (by rw [← hm.out]; exact Hpre.out)] at h5
                rw [h5, Hrs.out, Hr1.out]
              case measure => simp [intOf]; omega
        · obtain rfl : k = s.size := by omega
          have hbf := hbuf.out
          have htl : l.take s.size = l := List.take_of_length_le (by omega)
          rw [htl, HN.out, bufL_full] at hbf
          have hcv := run_convert_bytes_back (P := Try.prog) wr 23 9 5 ⟨gb, 0, none⟩ N (rp ps l) Try.underlying23 Try.underlying5 Try.underlying9 (fun jj hjj => by
            rw [Addr.add_lit, cell_of_row _ _ _ _ _ _ hbf, Nat.zero_add]
            unfold Lib.byteCells
            simp [hjj])
          rw [← HN.out] at hcv
          have Hbw := Lib.hid hbw
          clear hbw hlt hbf htl hm hbuf
          go_wp2_with fail
          go_ret
          exact ⟨rfl, Hbw.out⟩
end Go.Proofs.Ytbbompmpecblgaa.ReplR
