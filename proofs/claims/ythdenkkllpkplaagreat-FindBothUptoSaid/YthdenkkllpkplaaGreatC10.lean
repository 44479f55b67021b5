/- Joined by a program: ReplR, ReplC, PrInv, LCl. -/
import Derived.Laws.CopyOwn
import Derived.StillTailTactics
import Derived.Deep.QuietTactic
import Derived.BigQuiet
import Derived.Deep.DeepCutAuto
import Derived.IntWalk
import Derived.Deep.RegionHeld3
import Derived.Test.YthdenkkllpkplaaGreatC09
import Derived.Test.YthdenkkllpkplaaGreatC06
import Derived.Test.YthdenkkllpkplaaGreatC08
import Derived.Test.YthdenkkllpkplaaGreatC01
section
/- (*strings.byteStringReplacer).Replace. -/
namespace Go.Proofs.YthdenkkllpkplaaGreat.ReplR
open Go Go.RowKit Go.Proofs.YthdenkkllpkplaaGreat.Seq Go.Proofs.YthdenkkllpkplaaGreat.Mem Go.Proofs.YthdenkkllpkplaaGreat.Build Go.Proofs.YthdenkkllpkplaaGreat.Repl Go.Proofs.YthdenkkllpkplaaGreat.ReplB
set_option linter.unusedVariables false
set_option linter.unusedSimpArgs false

/-! The plain side. -/
def rp1 (ps : Pairs) (c : UInt8) : List UInt8 := (lkd ps c).getD [c]
def rp (ps : Pairs) (l : List UInt8) : List UInt8 := l.flatMap (rp1 ps)
theorem rp_snoc (ps : Pairs) (l : List UInt8) (c : UInt8) : rp ps (l ++ [c]) = rp ps l ++ rp1 ps c := by unfold rp; rw [List.flatMap_append]; simp
/-- What a byte gains. -/
def gn (ps : Pairs) (c : UInt8) : Int := ((rp1 ps c).length : Int) - 1
def sumA (ps : Pairs) (l : List UInt8) (ks : List UInt8) : Int := (ks.map (fun c => (l.count c : Int) * gn ps c)).sum
theorem sumA_nil (ps : Pairs) (ks : List UInt8) : sumA ps [] ks = 0 := by
  unfold sumA
  induction ks with
  | nil => rfl
  | cons k ks ih => rw [List.map_cons, List.sum_cons, ih]; simp
theorem sumA_cons (ps : Pairs) (c : UInt8) (l : List UInt8) : ∀ (ks : List UInt8), ks.Nodup → sumA ps (c :: l) ks = sumA ps l ks + if c ∈ ks then gn ps c else 0
  | [], _ => rfl
  | k :: ks, h => by
    rw [List.nodup_cons] at h
    have ih := sumA_cons ps c l ks h.2
    unfold sumA at ih ⊢
    rw [List.map_cons, List.sum_cons, List.map_cons, List.sum_cons, ih]
    by_cases hc : c = k
    · subst hc
      rw [if_neg h.1, if_pos (by simp), List.count_cons_self]
      have : ((l.count c + 1 : Nat) : Int) * gn ps c = (l.count c : Int) * gn ps c + gn ps c := by rw [Int.natCast_add, Int.add_mul]; simp
      rw [this]; omega
    · rw [List.count_cons_of_ne hc]
      by_cases hm : c ∈ ks
      · rw [if_pos hm, if_pos (by simp [hm])]; omega
      · rw [if_neg hm, if_neg (by simp [hm, hc])]; omega
theorem sumA_all {ps : Pairs} {ks : List UInt8} (hn : ks.Nodup) (hk : ∀ c, c ∈ ks ↔ (lkd ps c).isSome = true) : ∀ l : List UInt8, (l.length : Int) + sumA ps l ks = (rp ps l).length
  | [] => by rw [sumA_nil]; rfl
  | c :: l => by
    have ih := sumA_all hn hk l
    rw [sumA_cons _ _ _ _ hn]
    unfold rp at ih ⊢
    rw [List.flatMap_cons, List.length_append, List.length_cons]
    have hg : (if c ∈ ks then gn ps c else 0) = gn ps c := by
      by_cases h : c ∈ ks
      · rw [if_pos h]
      · rw [if_neg h]
        have : lkd ps c = none := by
          cases hl : lkd ps c with
          | none => rfl
          | some r => exact absurd ((hk c).2 (by rw [hl]; rfl)) h
        unfold gn rp1
        rw [this]; rfl
    rw [hg]
    unfold gn
    omega
theorem rp_same {ps : Pairs} {l : List UInt8} (h : ∀ c ∈ l, lkd ps c = none) : rp ps l = l := by
  unfold rp
  induction l with
  | nil => rfl
  | cons c l ih => rw [List.flatMap_cons, ih (fun d hd => h d (by simp [hd]))]; unfold rp1; rw [h c (by simp)]; rfl
theorem keys_iff (ps : Pairs) (c : UInt8) : c ∈ keysOf ps ↔ (lkd ps c).isSome = true := by
  unfold keysOf lkd
  rw [List.mem_reverse, Option.isSome_map, List.find?_isSome]
  simp only [List.mem_map]
  constructor
  · rintro ⟨p, hp, rfl⟩; exact ⟨p, hp, by simp⟩
  · rintro ⟨p, hp, h⟩; exact ⟨p, hp, by simpa using h⟩
theorem lkd_mem {ps : Pairs} {c : UInt8} {r : List UInt8} (h : lkd ps c = some r) : (c, r) ∈ ps := by
  unfold lkd at h
  rw [Option.map_eq_some_iff] at h
  obtain ⟨p, hp, rfl⟩ := h
  have h1 := List.mem_of_find?_eq_some hp
  have h2 := List.find?_some hp
  simp at h2
  rw [← h2]; exact h1
theorem keys_nodup {ps : Pairs} (G : ReplB.Good ps) : (keysOf ps).Nodup := by unfold keysOf List.Nodup; rw [List.pairwise_reverse]; exact List.Pairwise.imp (fun h => h.symm) G.once
theorem gn_bound {ps : Pairs} (G : ReplB.Good ps) (c : UInt8) : -1 ≤ gn ps c ∧ gn ps c ≤ 999 := by
  unfold gn rp1
  cases h : lkd ps c with
  | none => simp
  | some r =>
    have h1 : r.length ≤ 1000 := (G.long _ (lkd_mem h)).2
    simp
    omega
theorem rp1_bound {ps : Pairs} (G : ReplB.Good ps) (c : UInt8) : (rp1 ps c).length ≤ 1000 := by have h := (gn_bound G c).2; unfold gn at h; omega
theorem rp_bound {ps : Pairs} (G : ReplB.Good ps) : ∀ l : List UInt8, (rp ps l).length ≤ l.length * 1000
  | [] => by simp [rp]
  | c :: l => by
    have := rp_bound G l
    have := rp1_bound G c
    unfold rp at *
    rw [List.flatMap_cons, List.length_append, List.length_cons, Nat.add_mul]
    omega
theorem sumA_bound {ps : Pairs} (G : ReplB.Good ps) (l : List UInt8) (hl : l.length ≤ 1000) : ∀ ks : List UInt8, -1000 * (ks.length : Int) ≤ sumA ps l ks ∧ sumA ps l ks ≤ 1000000 * (ks.length : Int)
  | [] => by simp [sumA]
  | k :: ks => by
    have ih := sumA_bound G l hl ks
    have hb := gn_bound G k
    have hc := List.count_le_length (a := k) (l := l)
    unfold sumA at ih ⊢
    rw [List.map_cons, List.sum_cons, List.length_cons]
    have h1 : (l.count k : Int) * gn ps k ≤ 1000 * 1000 := by
      by_cases h0 : 0 ≤ gn ps k
      · exact Int.mul_le_mul (by omega) (by omega) h0 (by decide)
      · have : (l.count k : Int) * gn ps k ≤ 0 := Int.mul_nonpos_of_nonneg_of_nonpos (by omega) (by omega)
        omega
    have h2 : -1000 ≤ (l.count k : Int) * gn ps k := by
      by_cases h0 : 0 ≤ gn ps k
      · have : 0 ≤ (l.count k : Int) * gn ps k := Int.mul_nonneg (by omega) h0
        omega
      · have : gn ps k = -1 := by omega
        rw [this]; omega
    omega
/-- The buffer when ys is written. -/
def bufL (ys : List UInt8) (N : Nat) : List Value := Lib.byteCells ys ++ List.replicate (N - ys.length) (.int .u8 0)
theorem bufL_length {ys : List UInt8} {N : Nat} (h : ys.length ≤ N) : (bufL ys N).length = N := by unfold bufL; rw [List.length_append, Lib.byteCells_length, List.length_replicate]; omega
theorem bufL_splice {ys r : List UInt8} {N : Nat} (h : ys.length + r.length ≤ N) : splice (bufL ys N) ys.length (Lib.byteCells r) = bufL (ys ++ r) N := by
  unfold splice bufL
  rw [Lib.byteCells_length, List.take_left' (Lib.byteCells_length ys), List.drop_append, List.drop_eq_nil_of_le (by rw [Lib.byteCells_length]; omega), Lib.byteCells_length, List.drop_replicate, Lib.byteCells_append, List.append_assoc, List.nil_append, List.length_append]
  congr 3
  omega
theorem bufL_set {ys : List UInt8} {N : Nat} {c : UInt8} (h : ys.length < N) : (bufL ys N).set ys.length (.int .u8 (c.toNat : Int)) = bufL (ys ++ [c]) N := by
  have := bufL_splice (ys := ys) (r := [c]) (N := N) (by simp; omega)
  rw [← this]
  have hl := bufL_length (ys := ys) (N := N) (by omega)
  rw [List.set_eq_take_append_cons_drop, if_pos (by omega)]
  rfl
theorem bufL_full {ys : List UInt8} : bufL ys ys.length = Lib.byteCells ys := by unfold bufL; rw [Nat.sub_self]; simp
theorem bufL_zero (N : Nat) : (madeCells #[Value.int .u8 0] N) = (bufL [] N).toArray := by
  apply Array.ext'
  rw [toList_madeCells_one]
  unfold bufL
  simp [Lib.byteCells]

/-! The walk. -/
theorem tab_slot {T : Nat} {ps : Pairs} {ks : List UInt8} {F : Nat → Prop} {w : World} (h : Table T ps ks F w) (c : UInt8) :
    (lkd ps c = none → w.cell? ⟨T, c.toNat, none⟩ = some (.slice none 0 0)) ∧ ∀ r, lkd ps c = some r → ∃ g cap, w.cell? ⟨T, c.toNat, none⟩ = some (.slice (some ⟨g, 0, none⟩) r.length cap) ∧ g < w.heap.size ∧ ∀ j (h : j < r.length), w.cell? ⟨g, j, none⟩ = some (.int .u8 (r[j].toNat : Int)) := by
  obtain ⟨tb, tr, h1, h2, h3, h4, h5⟩ := h
  have hc := UInt8.toNat_lt c
  have hcell : w.cell? ⟨T, c.toNat, none⟩ = some (tb c.toNat) := by rw [cell_of_row _ _ _ _ _ _ h1, tab_get _ _ (by omega)]
  refine ⟨fun h => by rw [hcell, (h3 c).1 h], fun r hr => ?_⟩
  obtain ⟨g, cap, e1, e2, e3, e4, e5, e6⟩ := (h3 c).2 r hr
  exact ⟨g, cap, by rw [hcell, e1], e5, e6⟩
theorem tab_keys {T : Nat} {ps : Pairs} {ks : List UInt8} {F : Nat → Prop} {w : World} (h : Table T ps ks F w) (hk : 0 < ks.length) :
    ∃ g cap, w.cell? ⟨T, 256, none⟩ = some (.slice (some ⟨g, 0, none⟩) ks.length cap) ∧ ∀ j (h : j < ks.length), w.cell? ⟨g, j, none⟩ = some (.string ⟨#[ks[j]]⟩) := by
  obtain ⟨tb, tr, h1, h2, h3, h4, h5⟩ := h
  have hcell : w.cell? ⟨T, 256, none⟩ = some tr := by rw [cell_of_row _ _ _ _ _ _ h1, tab_last]
  have hc := fun gg hgg i s hi => h4.cells (g := gg) hgg i s hi
  rcases h4.2 with ⟨rfl, h0⟩ | ⟨g, cap, cur, rfl, _⟩
  · omega
  · refine ⟨g, cap, hcell, fun i hi => ?_⟩
    have := hc g rfl i (.string ⟨#[ks[i]]⟩) (by rw [List.getElem?_map, List.getElem?_eq_getElem hi]; rfl)
    rwa [Addr.add_lit, Nat.zero_add] at this
theorem drewN_below {B : Nat} {a w : World} (h : Below B a w) (n : Nat) : Below B a (w.drewN n) := ⟨h.os, h.tape, h.output, h.size, h.block⟩
theorem ret_s {a b : ByteArray} (h : a = b) : Ending.returned (.string a) = .returned (.string b) := by rw [h]
theorem rp_prefix (ps : Pairs) (l : List UInt8) (k : Nat) : (rp ps (l.take k)).length ≤ (rp ps l).length := by
  conv => rhs; rw [← List.take_append_drop k l]
  unfold rp
  rw [List.flatMap_append, List.length_append]
  omega
theorem bytes_one (l : List UInt8) : ∀ v ∈ Lib.byteCells l, v.oneCell' = true := by
  intro v hv
  obtain ⟨b, _, rfl⟩ := List.mem_map.1 hv
  rfl
def RoadPost (w : World) (ps : Pairs) (l : List UInt8) (a b : Value) (wx : World) : Prop :=
  a = .int .i64 ((rp ps l).length : Nat) ∧ (∃ bb : Bool, b = .bool bb ∧ (bb = false → rp ps l = l)) ∧ Below w.heap.size w wx
set_option maxRecDepth 100000 in
set_option maxHeartbeats 8000000 in
theorem bsr_calls (w : World) (ps : Pairs) (G : ReplB.Good ps) (T : Nat) (F : Nat → Prop) (hT : Table T ps (keysOf ps) F w) (hF : ∀ k, F k → k < w.heap.size) (s : ByteArray) (hs : s.size ≤ 1000) :
    Calls Tryz.prog 273 #[.pointer (some ⟨T, 0, none⟩), .string s] w fun e w' => e = .returned (.string ⟨(rp ps s.data.toList).toArray⟩) ∧ Below w.heap.size w w' := by
  have HT := Lib.hid (fun w' (hb : Below w.heap.size w w') => hT.keep (F' := F) (fun k hk => hb.block k (hF k hk)) (fun k hk => hk))
  have hkl : (keysOf ps).length = ps.length := by simp [keysOf]
  have hk0 : 0 < (keysOf ps).length := by have := G.two; omega
  have hk1 : (keysOf ps).length ≤ 100 := by have := G.few; omega
  have hsl := Lib.size_eq s
  obtain ⟨g3, c3, q1, q2⟩ := tab_keys hT hk0
  have hg3 := World.block_lt_of_cell? w _ (q2 0 hk0)
  have HQ2 := Lib.hid (fun w' (hb : Below w.heap.size w w') k (h : k < (keysOf ps).length) => cell_below hb (q2 k h) hg3)
  have HTl := Lib.hid (World.block_lt_of_cell? w _ q1)
  have HG := Lib.hid G
  have Hsl := Lib.hid hsl
  clear hT hF G hsl hkl q2 hg3
  obtain ⟨l, hl⟩ : ∃ l, l = s.data.toList := ⟨_, rfl⟩
  obtain ⟨K, hK⟩ : ∃ K, K = (keysOf ps).length := ⟨_, rfl⟩
  have Hl := Lib.hid hl; have HK := Lib.hid hK
  rw [← hK] at hk0 hk1 q1
  rw [← hl]
  clear hl hK
  go_enter Tryz.func273, Tryz.ntmps273
  go_upto_if 26 with fail
  go_cut [5, 6] (fun a b wx => RoadPost w ps l a b wx)
  case first =>
    by_cases hroad : K * 8 ≤ s.size
    · have h26 : decide ((K : Int) * 8 ≤ (s.size : Int)) = true := decide_eq_true (by omega)
      go_wp2_with fail
      clear h26
      go_loopw [5, 6, 32] (fun a b i wr => ∃ (k : Nat) (z : Int) (bb : Bool), k ≤ K ∧ i = .int .i64 k ∧ a = .int .i64 z ∧ b = .bool bb ∧ Hid (z = (s.size : Int) + sumA ps l ((keysOf ps).take k)) ∧ Hid (bb = ((keysOf ps).take k).any (fun c => decide (0 < l.count c))) ∧ Below w.heap.size w wr) (fun _ _ i _ => K - (intOf i).toNat)
      case atStart => exact ⟨0, _, _, Nat.zero_le _, rfl, rfl, rfl, Lib.hid (by simp [sumA]), Lib.hid rfl, Below.refl _ _⟩
      case round =>
        obtain ⟨k, z, bb, hk, rfl, rfl, rfl, hz, hbb, hbw⟩ := hrel
        by_cases hlt : k < K
        · have hkk : k < (keysOf ps).length := by rw [← HK.out]; exact hlt
          have e1 := HQ2.out wr hbw k hkk
          have hmem := (keys_iff ps (keysOf ps)[k]).1 (List.getElem_mem hkk)
          have htk : (keysOf ps).take (k + 1) = (keysOf ps).take k ++ [(keysOf ps)[k]] := List.take_succ_eq_append_getElem hkk
          generalize (keysOf ps)[k] = x at *
          obtain ⟨s1, hs1⟩ : ∃ s1 : ByteArray, s1 = ⟨#[x]⟩ := ⟨_, rfl⟩
          rw [← hs1] at e1
          have hix : ∀ W, (Instr.index 9 (.string s1) (.int .i64 0)).run Tryz.prog W = .ok (.int .u8 x.toNat) W := fun W => by rw [hs1]; rfl
          obtain ⟨r, hr⟩ := Option.isSome_iff_exists.1 hmem
          obtain ⟨g, cap, t1, -, -⟩ := (tab_slot (HT.out wr hbw) x).2 r hr
          have hx2 : (x.toNat : Int) < 256 := by have := UInt8.toNat_lt x; omega
          have hcl := List.count_le_length (a := x) (l := l)
          have hgb := gn_bound HG.out x
          have hgn : gn ps x = (r.length : Int) - 1 := by unfold gn rp1; rw [hr]; rfl
          have hcn : ∀ W, Calls Tryz.prog 275 #[.string s, .string s1] W fun e w' => e = .returned (.int .i64 (l.count x : Nat)) ∧ W = w' := fun W => by
            rw [hs1, Hl.out]
            exact (Tryz.strings_Count_one s x W).mono (fun e w' ⟨h1, h2⟩ => ⟨h1, h2.symm⟩)
          have hsa : sumA ps l ((keysOf ps).take (k + 1)) = sumA ps l ((keysOf ps).take k) + (l.count x : Int) * gn ps x := by
            rw [htk]; unfold sumA; rw [List.map_append, List.sum_append]; simp
          have hany : ((keysOf ps).take (k + 1)).any (fun c => decide (0 < l.count c)) = (((keysOf ps).take k).any (fun c => decide (0 < l.count c)) || decide (0 < l.count x)) := by rw [htk, List.any_append]; simp
          have hll : l.length = s.size := by rw [Hsl.out, Hl.out]
          have hb1 := sumA_bound HG.out l (by omega) ((keysOf ps).take k)
          have hb2 := sumA_bound HG.out l (by omega) ((keysOf ps).take (k + 1))
          have hl1 : ((keysOf ps).take k).length ≤ 100 := by rw [List.length_take]; omega
          have hl2 : ((keysOf ps).take (k + 1)).length ≤ 100 := by rw [List.length_take]; have := HK.out; omega
          generalize hcnt : l.count x = cn at *
          generalize hp1 : (cn : Int) * gn ps x = p1 at *
          generalize hg1 : gn ps x = g1 at *
          have hz2 : z + p1 = (s.size : Int) + sumA ps l ((keysOf ps).take (k + 1)) := by rw [hz.out, hsa]; omega
          have hzb : -200000 ≤ z ∧ z ≤ 200000000 := by rw [hz.out]; omega
          have hzb2 : -200000 ≤ z + p1 ∧ z + p1 ≤ 200000000 := by rw [hz2]; omega
          obtain ⟨z2, hz3⟩ : ∃ z2, z2 = z + p1 := ⟨_, rfl⟩
          rw [← hz3] at hz2 hzb2
          generalize hLL : r.length = LL at *
          have hw1 : IntKind.i64.wrap ((LL : Int) - 1) = g1 := by rw [IntWalk.i64_in _ (by omega)]; omega
          have hw2 : IntKind.i64.wrap ((cn : Int) * g1) = p1 := by rw [hp1]; exact IntWalk.i64_in _ (by omega)
          have hw3 : IntKind.i64.wrap (z + p1) = z2 := by rw [← hz3]; exact IntWalk.i64_in _ (by omega)
          have Hcn := Lib.hid hcn; have Hz2 := Lib.hid hz2; have Hany := Lib.hid hany; have Hbw := Lib.hid hbw; have Hp1 := Lib.hid hp1; have Hz3 := Lib.hid hz3
          clear hcn hz2 hany hbw hp1 hz3 hsa hb1 hb2 hl1 hl2 hgb hcl hgn hg1 hcnt hLL hs1 hmem htk hr hll hzb hzb2 hkk
          by_cases h0 : cn = 0
          · subst h0
            clear hw1 hw2 hw3
            go_wp2_with (go_at_call 275; with_reducible refine (Hcn.out _).mono ?_; rintro e w5 ⟨rfl, rfl⟩)
            go_roundw
            case rel => exact ⟨k + 1, z, bb, by omega, by go_num, rfl, rfl, Lib.hid (by have := Hz2.out; have := Hz3.out; have := Hp1.out; simp at this; omega), Lib.hid (by rw [Hany.out, ← hbb.out]; simp), Hbw.out⟩
            case measure => simp [intOf]; omega
          · have h1 : ((cn : Int) != 0) = true := by rw [bne_iff_ne]; omega
            go_wp2_with (go_at_call 275; with_reducible refine (Hcn.out _).mono ?_; rintro e w5 ⟨rfl, rfl⟩)
            go_quiet (fail)
            go_wp2_with fail
            go_roundw
            case rel => exact ⟨k + 1, z2, true, by omega, by go_num, rfl, rfl, Lib.hid Hz2.out, Lib.hid (by rw [Hany.out, decide_eq_true (show 0 < cn by omega)]; simp), drewN_below Hbw.out _⟩
            case measure => simp [intOf]; omega
        · obtain rfl : k = K := by omega
          have Hbw := Lib.hid hbw
          clear hbw hlt
          go_wp2_with fail
          go_meet
          have hl1 : z = (rp ps l).length := by
            have h2 := sumA_all (keys_nodup HG.out) (keys_iff ps) l
            have := hz.out
            rw [HK.out, List.take_length] at this
            rw [this, ← h2, Hl.out, Hsl.out]
          refine ⟨by rw [hl1], ⟨bb, rfl, fun hf => rp_same (fun c hc => ?_)⟩, Hbw.out⟩
          have h3 := hbb.out
          rw [HK.out, List.take_length, hf] at h3
          cases hq : lkd ps c with
          | none => rfl
          | some r =>
            have h4 : c ∈ keysOf ps := (keys_iff ps c).2 (by rw [hq]; rfl)
            have h5 := List.any_eq_false.1 h3.symm c h4
            simp at h5
            exact absurd hc h5
    · have h26 : decide ((K : Int) * 8 ≤ (s.size : Int)) = false := decide_eq_false (by omega)
      have hnn : ∀ (w : World) (a : Option Addr) (n c n' c' : Nat), (binOp .neq 162 (.slice a n c) (.slice none n' c')).run Tryz.prog w = .ok (.bool (!a.isNone)) w := fun w a n c n' c' => run_neq_slice_nil_any w _ _ a n c n' c' Tryz.underlying162
      go_wp2_with fail
      clear h26
      go_loop [5, 6, 10] (fun a b i => ∃ (k : Nat) (z : Int) (bb : Bool), k ≤ s.size ∧ i = .int .i64 k ∧ a = .int .i64 z ∧ b = .bool bb ∧ Hid (z = (s.size : Int) - k + (rp ps (l.take k)).length) ∧ Hid (bb = (l.take k).any (fun c => (lkd ps c).isSome))) (fun _ _ i => s.size - (intOf i).toNat)
      case atStart => exact ⟨0, _, _, Nat.zero_le _, rfl, rfl, rfl, Lib.hid (by simp [rp]), Lib.hid rfl⟩
      case round =>
        obtain ⟨k, z, bb, hk, rfl, rfl, rfl, hz, hbb⟩ := hrel
        have hll : l.length = s.size := by rw [Hsl.out, Hl.out]
        by_cases hlt : k < s.size
        · have htk : l.take (k + 1) = l.take k ++ [s[k]] := by rw [List.take_succ_eq_append_getElem (by omega)]; simp [Hl.out]; rfl
          have hrs : rp ps (l.take (k + 1)) = rp ps (l.take k) ++ rp1 ps s[k] := by rw [htk, rp_snoc]
          have hany : (l.take (k + 1)).any (fun c => (lkd ps c).isSome) = ((l.take k).any (fun c => (lkd ps c).isSome) || (lkd ps s[k]).isSome) := by rw [htk, List.any_append]; simp
          have hx2 : (s[k].toNat : Int) < 256 := by have := UInt8.toNat_lt s[k]; omega
          have hb1 := rp_bound HG.out (l.take k)
          have hb2 := rp1_bound HG.out s[k]
          have hl1 : (l.take k).length ≤ 1000 := by rw [List.length_take]; omega
          have hl2 : (l.take k).length = k := by rw [List.length_take]; omega
          have hts := tab_slot (HT.out w (Below.refl _ _)) s[k]
          have Hrs := Lib.hid hrs; have Hany := Lib.hid hany
          clear hany hrs htk
          cases hq : lkd ps s[k] with
          | none =>
            have t1 := hts.1 hq
            have hr1 : (rp1 ps s[k]).length = 1 := by unfold rp1; rw [hq]; rfl
            have Hr1 := Lib.hid hr1; have Hq := Lib.hid hq
            clear hts hq hr1 hb1 hb2 hl1 hl2
            go_wp2_with fail
            go_round
            case rel => exact ⟨k + 1, z, bb, by omega, by go_num, rfl, rfl, Lib.hid (by rw [hz.out, Hrs.out, List.length_append, Hr1.out]; omega), Lib.hid (by rw [Hany.out, ← hbb.out, Hq.out]; simp)⟩
            case measure => simp [intOf]; omega
          | some r =>
            obtain ⟨g, cap, t1, -, -⟩ := hts.2 r hq
            have hr1 : (rp1 ps s[k]).length = r.length := by unfold rp1; rw [hq]; rfl
            have hzb : -1000 ≤ z ∧ z ≤ 1001000 := by rw [hz.out]; omega
            have hrl : r.length ≤ 1000 := by omega
            have hrl2 : 1 ≤ r.length := by have := (HG.out.long _ (lkd_mem hq)).1; simp at this; omega
            have Hr1 := Lib.hid hr1; have Hq := Lib.hid hq
            clear hts hq hr1 hb1 hb2 hl1 hl2
            go_wp2_with fail
            go_round
            case rel => exact ⟨k + 1, z + ((r.length : Int) - 1), true, by omega, by go_num, by go_num, rfl, Lib.hid (by rw [hz.out, Hrs.out, List.length_append, Hr1.out]; omega), Lib.hid (by rw [Hany.out, Hq.out]; simp)⟩
            case measure => simp [intOf]; omega
        · obtain rfl : k = s.size := by omega
          clear hlt
          go_wp2_with fail
          go_meet
          have hz1 := hz.out
          have hb3 := hbb.out
          rw [List.take_of_length_le (by omega)] at hz1 hb3
          refine ⟨by rw [hz1]; congr 1; omega, ⟨bb, rfl, fun hf => rp_same (fun c hc => ?_)⟩, Below.refl _ _⟩
          rw [hf] at hb3
          have h5 := List.any_eq_false.1 hb3.symm c hc
          cases hq : lkd ps c with
          | none => rfl
          | some r => rw [hq] at h5; simp at h5
  case rest =>
    obtain ⟨rfl, ⟨bb, rfl, hbb⟩, hbw⟩ := hcut
    have hN : (rp ps l).length ≤ 1000000 := by
      have := rp_bound HG.out l
      have : l.length = s.size := by rw [Hsl.out, Hl.out]
      omega
    cases bb with
    | false =>
      have Hr := Lib.hid (hbb rfl); have Hbw := Lib.hid hbw
      clear hbb hbw
      go_wp2_with fail
      go_ret
      exact ⟨ret_s (by rw [Hr.out, Hl.out]), Hbw.out⟩
    | true =>
      clear hbb
      have Hbw := Lib.hid hbw
      clear hbw
      obtain ⟨N, hNN⟩ : ∃ N, N = (rp ps l).length := ⟨_, rfl⟩
      rw [← hNN] at hN
      rw [← hNN]
      have HN := Lib.hid hNN
      clear hNN
      have hmk := fun W => run_make_row' (P := Tryz.prog) 162 5 (.int .u8 0) 1 Tryz.underlying162 info_u8 rfl .i64 .i64 N (by omega) (by omega) W
      have hnn : ∀ (w : World) (a : Option Addr) (n c n' c' : Nat), (binOp .neq 162 (.slice a n c) (.slice none n' c')).run Tryz.prog w = .ok (.bool (!a.isNone)) w := fun w a n c n' c' => run_neq_slice_nil_any w _ _ a n c n' c' Tryz.underlying162
      go_wp2_with fail
      clear hmk
      rw [bufL_zero]
      obtain ⟨gb, hgb⟩ : ∃ gb, gb = wc.heap.size := ⟨_, rfl⟩
      obtain ⟨W0, hW0⟩ : ∃ W0, wc.alloc (.cells (bufL [] N).toArray 5) = W0 := ⟨_, rfl⟩
      have hbuf : W0.heap[gb]? = some (.cells (bufL [] N).toArray 5 (0, 0)) := by rw [← hW0]; exact heap_new hgb
      have hb0 : Below w.heap.size w W0 := by rw [← hW0]; exact Hbw.out.alloc Hbw.out.size _
      have hgw : w.heap.size ≤ gb := by rw [hgb]; exact Hbw.out.size
      rw [hW0, ← hgb]
      have Hbuf := Lib.hid hbuf; have Hb0 := Lib.hid hb0
      clear hbuf hb0 hW0 hgb
      go_loopw [13, 14] (fun a i wr => ∃ (k m : Nat), k ≤ s.size ∧ i = .int .i64 k ∧ a = .int .i64 m ∧ Hid (m = (rp ps (l.take k)).length) ∧ Hid (wr.heap[gb]? = some (.cells (bufL (rp ps (l.take k)) N).toArray 5 (0, 0))) ∧ Below w.heap.size w wr) (fun _ i _ => s.size - (intOf i).toNat)
      case atStart => exact ⟨0, 0, Nat.zero_le _, rfl, rfl, Lib.hid (by simp [rp]), Lib.hid (by simpa [rp] using Hbuf.out), Hb0.out⟩
      case round =>
        obtain ⟨k, m, hk, rfl, rfl, hm, hbuf, hbw⟩ := hrel
        have hll : l.length = s.size := by rw [Hsl.out, Hl.out]
        by_cases hlt : k < s.size
        · have htk : l.take (k + 1) = l.take k ++ [s[k]] := by rw [List.take_succ_eq_append_getElem (by omega)]; simp [Hl.out]; rfl
          have hrs : rp ps (l.take (k + 1)) = rp ps (l.take k) ++ rp1 ps s[k] := by rw [htk, rp_snoc]
          have hx2 : (s[k].toNat : Int) < 256 := by have := UInt8.toNat_lt s[k]; omega
          have hts := tab_slot (HT.out wr hbw) s[k]
          have hpre := rp_prefix ps l (k + 1)
          rw [hrs, List.length_append, ← hm.out, ← HN.out] at hpre
          have Hrs := Lib.hid hrs
          clear hrs htk
          cases hq : lkd ps s[k] with
          | none =>
            have t1 := hts.1 hq
            have hr1 : rp1 ps s[k] = [s[k]] := by unfold rp1; rw [hq]; rfl
            rw [hr1] at hpre
            have hmN : m < N := by rw [List.length_singleton] at hpre; omega
            have Hr1 := Lib.hid hr1; have Hq := Lib.hid hq; have Hbw := Lib.hid hbw
            have b1 : wr.cell? ⟨gb, m, none⟩ = some (.int .u8 0) := by
              rw [cell_of_row _ _ _ _ _ _ hbuf.out, hm.out]
              unfold bufL
              simp [Lib.byteCells_length, List.getElem?_append_right, List.getElem?_replicate]
              rw [← hm.out]; omega
            have b2 := free_of hbuf.out m
            clear hts hq hr1 hpre hbw
            go_wp2_with fail
            go_roundw
            case rel =>
              refine ⟨k + 1, m + 1, by omega, by go_num, by go_num, Lib.hid (by rw [Hrs.out, Hr1.out, List.length_append, ← hm.out]; rfl), Lib.hid ?_, Hbw.out.setCell hgw _⟩
              rw [setCell_row hbuf.out, Hrs.out, Hr1.out, hm.out, List.setIfInBounds_toArray, bufL_set (by rw [← hm.out]; exact hmN)]
            case measure => simp [intOf]; omega
          | some r =>
            obtain ⟨g, cap, t1, hgl, t2⟩ := hts.2 r hq
            have hr1 : rp1 ps s[k] = r := by unfold rp1; rw [hq]; rfl
            rw [hr1] at hpre
            have hrl2 : 2 ≤ r.length := (HG.out.long _ (lkd_mem hq)).1
            have hmN : m < N := by omega
            have hsrc : ∀ (W : World), W.heap = wr.heap → ∀ j v, (Lib.byteCells r)[j]? = some v → W.cell? ((⟨g, 0, none⟩ : Addr).add j) = some v := fun W hW j v hj => by
              rw [Addr.add_lit, Nat.zero_add, cell_same (w := wr) (by rw [hW])]
              unfold Lib.byteCells at hj
              rw [List.getElem?_map] at hj
              obtain ⟨y, hy, rfl⟩ := Option.map_eq_some_iff.1 hj
              obtain ⟨hj2, rfl⟩ := List.getElem?_eq_some_iff.1 hy
              exact t2 j hj2
            have hn1 : (Lib.byteCells r).length = Nat.min r.length (N - m) := by rw [Lib.byteCells_length]; exact (Nat.min_eq_left (by omega)).symm
            have hn2 : m + (Lib.byteCells r).length ≤ (bufL (rp ps (l.take k)) N).length := by rw [Lib.byteCells_length, bufL_length (by rw [← hm.out]; omega)]; exact hpre
            have hw1 : IntKind.i64.wrap ((m : Int) + r.length) = ((m + r.length : Nat) : Int) := by rw [IntWalk.i64_in _ (by omega)]; omega
            have hmN2 : ¬ N = m := by omega
            have hmN3 : (m : Int) < N := by omega
            have hmN4 : (m : Int) ≤ N := by omega
            have hlb := Lib.byteCells_length r
            have Hr1 := Lib.hid hr1; have Hq := Lib.hid hq; have Hbw := Lib.hid hbw; have Hsrc := Lib.hid hsrc; have Hn1 := Lib.hid hn1; have Hn2 := Lib.hid hn2; have Hlb := Lib.hid hlb; have Hpre := Lib.hid hpre
            clear hts hq hr1 hbw t2 hsrc hn1 hn2 hlb hpre
            go_wp2_with fail
            go_region_law (refine step_copy_splice rfl (.tmp 105) (.tmp 111) 162 162 rfl 5 Tryz.underlying162 (by kernel_rfl) (some ⟨gb, m, none⟩) (some ⟨g, 0, none⟩) (N - m) (N - m) r.length cap (by simp [Act.eval, Act.put]) (by simp [Act.eval, Act.put]) gb m (bufL (rp ps (l.take k)) N) 5 hbuf.out (Lib.byteCells r) Hn1.out (fun _ => ⟨rfl, ⟨g, 0, none⟩, rfl, Hsrc.out _ rfl⟩) Hn2.out (bytes_one r) w.heap.size w (by first | exact Hbw.out | exact Hbw.out.drew) hgw ?_; intro w4 hg4 hb4; rw [Hlb.out])
            all_goals
              go_wp2_with fail
              go_roundw
              case rel =>
                refine ⟨k + 1, m + r.length, by omega, by go_num, by go_num, Lib.hid (by rw [Hrs.out, Hr1.out, List.length_append, ← hm.out]), Lib.hid ?_, hb4⟩
                have h5 := hg4.out
                rw [hm.out, bufL_splice (by rw [← hm.out]; exact Hpre.out)] at h5
                rw [h5, Hrs.out, Hr1.out]
              case measure => simp [intOf]; omega
        · obtain rfl : k = s.size := by omega
          have hbf := hbuf.out
          have htl : l.take s.size = l := List.take_of_length_le (by omega)
          rw [htl, HN.out, bufL_full] at hbf
          have hcv := run_convert_bytes_back (P := Tryz.prog) wr 162 9 5 ⟨gb, 0, none⟩ N (rp ps l) Tryz.underlying162 Tryz.underlying5 Tryz.underlying9 (fun jj hjj => by
            rw [Addr.add_lit, cell_of_row _ _ _ _ _ _ hbf, Nat.zero_add]
            unfold Lib.byteCells
            simp [hjj])
          rw [← HN.out] at hcv
          have Hbw := Lib.hid hbw
          clear hbw hlt hbf htl hm hbuf
          go_wp2_with fail
          go_ret
          exact ⟨rfl, Hbw.out⟩
end Go.Proofs.YthdenkkllpkplaaGreat.ReplR
end
section
/- (*strings.Replacer).Replace. -/
namespace Go.Proofs.YthdenkkllpkplaaGreat.ReplC
open Go Go.RowKit Go.Proofs.YthdenkkllpkplaaGreat.Seq Go.Proofs.YthdenkkllpkplaaGreat.Mem Go.Proofs.YthdenkkllpkplaaGreat.Build Go.Proofs.YthdenkkllpkplaaGreat.Repl Go.Proofs.YthdenkkllpkplaaGreat.ReplB Go.Proofs.YthdenkkllpkplaaGreat.ReplR
set_option linter.unusedVariables false
set_option linter.unusedSimpArgs false

abbrev tabV (T : Nat) : Value := .iface 270 (.pointer (some ⟨T, 0, none⟩))
/-- What building leaves. -/
def OncePost (rb : Nat) (ps : Pairs) (w : World) (w' : World) : Prop :=
  ∃ T F, w'.heap[rb]? = some (.cells #[.int .u32 0, .int .i32 1, .int .u32 0, tabV T, .slice none 0 0] 230 (0, 0)) ∧ Table T ps (keysOf ps) F w' ∧ (∀ k, F k → w.heap.size ≤ k ∧ k < w'.heap.size) ∧ Off (fun k => k = rb) w w'
theorem once_end {rb : Nat} {ps : Pairs} {w w2 : World} {T : Nat} {F : Nat → Prop} {so : Value} (hr2 : w2.heap[rb]? = some (.cells #[.int .u32 0, .int .i32 1, .int .u32 0, .nilIface, so] 230 (0, 0))) (hlt : rb < w.heap.size) (hT : Table T ps (keysOf ps) F w2) (hF : ∀ k, F k → w.heap.size ≤ k ∧ k < w2.heap.size) (hb : Below w.heap.size w w2) :
    OncePost rb ps w ((w2.setCell ⟨rb, 3, none⟩ (tabV T)).setCell ⟨rb, 4, none⟩ (.slice none 0 0)) := by
  refine ⟨T, F, ?_, hT.keep (fun k hk => ?_) (fun k hk => hk), fun k hk => ⟨(hF k hk).1, by simp [World.setCell]; exact (hF k hk).2⟩, ?_⟩
  · exact setCell_row (setCell_row hr2)
  · have := (hF k hk).1
    exact (heap_set_other (by omega)).trans (heap_set_other (by omega))
  · have h1 : Off (fun k => k = rb) w w2 := Off.below hb (fun b hb1 hb2 => by omega)
    exact (h1.trans (Off.setCell _ _ _ rfl)).trans (Off.setCell _ _ _ rfl)
theorem buildOnce_calls (w : World) (ps : Pairs) (G : ReplB.Good ps) (rb : Nat) (so : Value) (hr : w.heap[rb]? = some (.cells #[.int .u32 0, .int .i32 1, .int .u32 0, .nilIface, so] 230 (0, 0))) (hso : w.ownsRow 0 9 1 so (flat ps).length ((flat ps).map Value.string)) :
    Calls Tryz.prog 168 #[.pointer (some ⟨rb, 0, none⟩)] w fun e w' => e = .returned (.tuple #[]) ∧ OncePost rb ps w w' := by
  have hbc := build_calls w ps G rb so _ _ hr hso
  have Hbc := Lib.hid hbc; have Hr := Lib.hid hr
  have hlt := lt_heap hr
  clear hbc hr hso G
  go_enter Tryz.func168, Tryz.ntmps168
  go_wp2_with (go_at_call 192; (with_reducible refine (Hbc.out).mono ?_); rintro e w2 ⟨T, F, rfl, hT, hF, hb⟩; have hr2 := (hb.block rb hlt).trans Hr.out; have k3 : w2.cell? ⟨rb, 3, none⟩ = some .nilIface := (cell_of_row _ _ _ _ _ _ hr2).trans rfl; have k3f := free_of hr2 3; have k4 : w2.cell? ⟨rb, 4, none⟩ = some so := (cell_of_row _ _ _ _ _ _ hr2).trans rfl; have k4f := free_of hr2 4; have Hr2 := Lib.hid hr2; have HT := Lib.hid hT; have HF := Lib.hid hF; have Hb := Lib.hid hb; clear hr2 hT hF hb)
  go_end0
  exact ⟨rfl, once_end Hr2.out hlt HT.out HF.out Hb.out⟩
/-- What Do leaves. -/
def DonePost (rb : Nat) (ps : Pairs) (F : Nat → Prop) (w : World) (e : Ending) (w' : World) : Prop :=
  e = .returned (.tuple #[]) ∧ ∃ T F', w'.heap[rb]? = some (.cells (onceRow 1 (tabV T) (.slice none 0 0)) 230 (0, 0)) ∧ Table T ps (keysOf ps) F' w' ∧ (∀ k, F' k → (F k ∨ w.heap.size ≤ k) ∧ k < w'.heap.size ∧ k ≠ rb) ∧ Off (fun k => k = rb) w w'
theorem done_end {rb : Nat} {ps : Pairs} {F : Nat → Prop} {w w1 : World} (hlt : rb < w.heap.size) (h : OncePost rb ps (w.setCell ⟨rb, 1, none⟩ (.int .i32 1)) w1) :
    DonePost rb ps F w (.returned (.tuple #[])) ((w1.drew.setCell ⟨rb, 0, none⟩ (.int .u32 1)).setCell ⟨rb, 1, none⟩ (.int .i32 0)) := by
  obtain ⟨T, F', h1, h2, h3, h4⟩ := h
  have hs : (w.setCell ⟨rb, 1, none⟩ (.int .i32 1)).heap.size = w.heap.size := by simp [World.setCell]
  rw [hs] at h3
  refine ⟨rfl, T, F', ?_, h2.keep (fun k hk => ?_) (fun k hk => hk), fun k hk => ⟨.inr (h3 k hk).1, ?_, ?_⟩, ?_⟩
  · have h5 : w1.drew.heap[rb]? = _ := h1
    exact setCell_row (setCell_row h5)
  · have := (h3 k hk).1
    exact (heap_set_other (by omega)).trans (heap_set_other (by omega))
  · have := (h3 k hk).2
    simp [World.setCell]; exact this
  · have := (h3 k hk).1; omega
  · have o1 : Off (fun k => k = rb) w (w.setCell ⟨rb, 1, none⟩ (.int .i32 1)) := Off.setCell _ _ _ rfl
    exact (((o1.trans h4).trans (Off.drew _ _)).trans (Off.setCell _ _ _ rfl)).trans (Off.setCell _ _ _ rfl)
set_option maxRecDepth 100000 in
theorem Do_calls (w : World) (ps : Pairs) (G : ReplB.Good ps) (rb : Nat) (F : Nat → Prop) (h : IsRep rb ps F w) (hF : ∀ k, F k → k < w.heap.size ∧ k ≠ rb) :
    Calls Tryz.prog 167 #[.pointer (some ⟨rb, 0, none⟩), .func (.func 168) #[.pointer (some ⟨rb, 0, none⟩)] #[]] w (DonePost rb ps F w) := by
  have hnot : ∀ (x : Bool) (w : World), (Op.unary .not (.bool x)).run Tryz.prog w = .ok (.bool (!x)) w := fun _ _ => rfl
  rcases h with ⟨so, hr, hso, hsf⟩ | ⟨T, hr, hT⟩
  · have hlt := lt_heap hr
    have h0 : w.cell? ⟨rb, 0, none⟩ = some (.int .u32 0) := (cell_of_row _ _ _ _ _ _ hr).trans rfl
    have h1 : w.cell? ⟨rb, 1, none⟩ = some (.int .i32 0) := (cell_of_row _ _ _ _ _ _ hr).trans rfl
    have f1 := free_of hr 1
    have hr1 := setCell_row (i := 1) (v := .int .i32 1) hr
    have hb := buildOnce_calls (w.setCell ⟨rb, 1, none⟩ (.int .i32 1)) ps G rb so hr1 (own_keep hso (fun g hg => heap_set_other (hF g (hsf g hg)).2))
    have hs := Once.slow_calls rb (OncePost rb ps (w.setCell ⟨rb, 1, none⟩ (.int .i32 1))) w h0 h1 f1 (fun w1 ⟨T, F', g1, _⟩ => ⟨(cell_of_row _ _ _ _ _ _ g1).trans rfl, (cell_of_row _ _ _ _ _ _ g1).trans rfl, free_of g1 0, free_of g1 1⟩) hb
    have hl := run_call_load (P := Tryz.prog) Tryz.func203 (by kernel_rfl) (by kernel_rfl) (by kernel_rfl) .u32 (by kernel_rfl) h0
    have Hs := Lib.hid hs
    clear hs hb hr1 hr hso hsf hF G h1 f1
    go_enter Tryz.func167, Tryz.ntmps167
    go_wp2_with (first | (go_at_call 191; (with_reducible refine (Hs.out).mono ?_); rintro e w' ⟨rfl, w1, hw1, rfl⟩; have Hw1 := Lib.hid hw1; clear hw1) | (go_at_call 190; go_in))
    go_end0
    exact done_end hlt Hw1.out
  · have h0 : w.cell? ⟨rb, 0, none⟩ = some (.int .u32 1) := (cell_of_row _ _ _ _ _ _ hr).trans rfl
    have hl := run_call_load (P := Tryz.prog) Tryz.func203 (by kernel_rfl) (by kernel_rfl) (by kernel_rfl) .u32 (by kernel_rfl) h0
    have Hr := Lib.hid hr; have HT := Lib.hid hT; have HF := Lib.hid hF
    clear hr hT hF G
    go_enter Tryz.func167, Tryz.ntmps167
    go_wp2
    go_end0
    exact ⟨rfl, T, fun k => F k ∧ k < w.heap.size ∧ k ≠ rb, Hr.out, HT.out.keep (fun _ _ => rfl) (fun k hk => ⟨hk, HF.out k hk⟩), fun k hk => ⟨.inl hk.1, hk.2⟩, Off.refl _ _⟩
/-- What Replace leaves. -/
def RepPost (rb : Nat) (ps : Pairs) (F : Nat → Prop) (s : ByteArray) (w : World) (e : Ending) (w' : World) : Prop :=
  e = .returned (.string ⟨(rp ps s.data.toList).toArray⟩) ∧ ∃ F', IsRep rb ps F' w' ∧ (∀ k, F' k → (F k ∨ w.heap.size ≤ k) ∧ k < w'.heap.size ∧ k ≠ rb) ∧ Off (fun k => k = rb) w w'
theorem method_replace (a : Addr) (w : World) : (method 365 270 (.pointer (some a)) "Replace").run Tryz.prog w = .ok (273, .pointer (some a)) w := by kernel_rfl
theorem method_replace2 (a : Addr) (w : World) : (method 438 270 (.pointer (some a)) "Replace").run Tryz.prog w = .ok (273, .pointer (some a)) w := by kernel_rfl
theorem rep_end {rb : Nat} {ps : Pairs} {F F' : Nat → Prop} {s : ByteArray} {w w2 w3 : World} {T : Nat} (hr : w2.heap[rb]? = some (.cells (onceRow 1 (tabV T) (.slice none 0 0)) 230 (0, 0))) (hT : Table T ps (keysOf ps) F' w2)
    (hF : ∀ k, F' k → (F k ∨ w.heap.size ≤ k) ∧ k < w2.heap.size ∧ k ≠ rb) (ho : Off (fun k => k = rb) w w2) (hb : Below w2.heap.size w2 w3) : RepPost rb ps F s w (.returned (.string ⟨(rp ps s.data.toList).toArray⟩)) w3 := by
  refine ⟨rfl, F', .inr ⟨T, (hb.block rb (lt_heap hr)).trans hr, hT.keep (fun k hk => hb.block k (hF k hk).2.1) (fun k hk => hk)⟩, fun k hk => ⟨(hF k hk).1, Nat.lt_of_lt_of_le (hF k hk).2.1 hb.size, (hF k hk).2.2⟩, ho.trans (Off.below hb (fun b h1 h2 => by omega))⟩
set_option maxRecDepth 100000 in
theorem Replace_calls (w : World) (ps : Pairs) (G : ReplB.Good ps) (rb : Nat) (F : Nat → Prop) (h : IsRep rb ps F w) (hF : ∀ k, F k → k < w.heap.size ∧ k ≠ rb) (s : ByteArray) (hs : s.size ≤ 1000) :
    Calls Tryz.prog 98 #[.pointer (some ⟨rb, 0, none⟩), .string s] w (RepPost rb ps F s w) := by
  have hd := Do_calls w ps G rb F h hF
  have Hd := Lib.hid hd; have HG := Lib.hid G
  clear hd h hF G
  have hmf : ∀ (fn : Fn) (first cap : Array Value) (w : World), (Instr.makeFunc fn first cap).run Tryz.prog w = .ok (.func fn first cap) w := fun _ _ _ _ => rfl
  go_enter Tryz.func98, Tryz.ntmps98
  go_wp2_with (first | (go_at_call 273; (with_reducible refine (Hbs.out).mono ?_); rintro e w3 ⟨rfl, hb3⟩; have Hb3 := Lib.hid hb3; clear hb3) | (go_at_call 167; (with_reducible refine (Hd.out).mono ?_); rintro e w2 ⟨rfl, T, F', hr, hT, hF', ho⟩; have k3 : w2.cell? ⟨rb, 3, none⟩ = some (tabV T) := (cell_of_row _ _ _ _ _ _ hr).trans rfl; have hbs := bsr_calls w2 ps HG.out T F' hT (fun k hk => (hF' k hk).2.1) s hs; have hme := method_replace ⟨T, 0, none⟩; have hme2 := method_replace2 ⟨T, 0, none⟩; have Hbs := Lib.hid hbs; clear hbs; have Hr := Lib.hid hr; have HT := Lib.hid hT; have HF := Lib.hid hF'; have Ho := Lib.hid ho; clear hr hT hF' ho))
  go_ret
  exact rep_end Hr.out HT.out HF.out Ho.out Hb3.out
end Go.Proofs.YthdenkkllpkplaaGreat.ReplC
end
section
/- forest.Print: what lies in memory while it prints. -/
namespace Go.Proofs.YthdenkkllpkplaaGreat.Pr
open Go Go.RowKit Go.Proofs.YthdenkkllpkplaaGreat.Seq Go.Proofs.YthdenkkllpkplaaGreat.WS Go.Proofs.YthdenkkllpkplaaGreat.FS Go.Proofs.YthdenkkllpkplaaGreat.Mem Go.Proofs.YthdenkkllpkplaaGreat.Rd Go.Proofs.YthdenkkllpkplaaGreat.Shapes Go.Proofs.YthdenkkllpkplaaGreat.Build Go.Proofs.YthdenkkllpkplaaGreat.Repl Go.Proofs.YthdenkkllpkplaaGreat.ReplB Go.Proofs.YthdenkkllpkplaaGreat.ReplR Go.Proofs.YthdenkkllpkplaaGreat.ReplC
set_option linter.unusedVariables false
set_option linter.unusedSimpArgs false

def psQ (q : Bool) : Pairs := [(38, [38, 97, 109, 112, 59]), (60, [38, 108, 116, 59])] ++ (if q then [(34, [38, 113, 117, 111, 116, 59])] else [])
theorem psQ_good (q : Bool) : ReplB.Good (psQ q) := by
  cases q
  · exact ⟨by decide, by decide, by decide, by decide⟩
  · exact ⟨by decide, by decide, by decide, by decide⟩
theorem psQ_lkd (q : Bool) (c : UInt8) : lkd (psQ q) c = repl q c := by
  unfold lkd psQ repl
  by_cases h1 : c = 38
  · subst h1; cases q <;> rfl
  · by_cases h2 : c = 60
    · subst h2; cases q <;> rfl
    · have e1 : ((38 : UInt8) == c) = false := by simpa using fun h => h1 h.symm
      have e2 : ((60 : UInt8) == c) = false := by simpa using fun h => h2 h.symm
      cases q
      · simp [List.find?_cons, e1, e2, h1, h2]
      · by_cases h3 : c = 34
        · subst h3; rfl
        · have e3 : ((34 : UInt8) == c) = false := by simpa using fun h => h3 h.symm
          simp [List.find?_cons, e1, e2, e3, h1, h2, h3]
theorem psQ_rp (q : Bool) (l : List UInt8) : rp (psQ q) l = esc q l := by
  unfold rp esc
  rw [show rp1 (psQ q) = escB q from funext fun c => by unfold rp1 escB; rw [psQ_lkd]]

/-- Where all lies that stays where it is. -/
structure Lay where
  f : Fo
  B : Nat
  A : Option Addr
  c : Nat
  b : Nat
  bt : Nat
  bv : Nat
  bk : Nat
  bp : Nat
  bF : Nat
  rt : Nat
  rv : Nat
  Bp : Nat
structure Lay.OK (L : Lay) : Prop where
  lt : L.b < L.Bp ∧ L.bt < L.Bp ∧ L.bv < L.Bp ∧ L.bk < L.Bp ∧ L.bp < L.Bp ∧ L.bF < L.Bp ∧ L.rt < L.Bp ∧ L.rv < L.Bp
  ge : L.B ≤ L.b ∧ L.B ≤ L.rt ∧ L.B ≤ L.rv
  ne : L.b ≠ L.rt ∧ L.b ≠ L.rv ∧ L.rt ≠ L.rv
  nt : L.bt ≠ L.b ∧ L.bt ≠ L.rt ∧ L.bt ≠ L.rv
  nv : L.bv ≠ L.b ∧ L.bv ≠ L.rt ∧ L.bv ≠ L.rv
  nk : L.bk ≠ L.b ∧ L.bk ≠ L.rt ∧ L.bk ≠ L.rv
  np : L.bp ≠ L.b ∧ L.bp ≠ L.rt ∧ L.bp ≠ L.rv
  nF : L.bF ≠ L.b ∧ L.bF ≠ L.rt ∧ L.bF ≠ L.rv
/-- What may turn. -/
def YP (L : Lay) (v : Value) : Nat → Prop := fun k => k = L.b ∨ k = L.rt ∨ k = L.rv ∨ v.ownBlock = some k
structure PInv (L : Lay) (l : List UInt8) (v : Value) (Fs : Nat → Prop) (w : World) : Prop where
  vF : w.heap[L.bF]? = some (.cells #[.slice L.A L.f.length L.c] 28 (0, 0))
  vt : w.heap[L.bt]? = some (.cells #[.pointer (some ⟨L.rt, 0, none⟩)] 165 (0, 0))
  vv : w.heap[L.bv]? = some (.cells #[.pointer (some ⟨L.rv, 0, none⟩)] 165 (0, 0))
  vk : w.heap[L.bk]? = some (.cells #[.func (.func 95) #[] #[.pointer (some ⟨L.bp, 0, none⟩), .pointer (some ⟨L.bF, 0, none⟩)]] 167 (0, 0))
  vp : w.heap[L.bp]? = some (.cells #[.func (.func 96) #[] #[.pointer (some ⟨L.b, 0, none⟩), .pointer (some ⟨L.bt, 0, none⟩), .pointer (some ⟨L.bk, 0, none⟩), .pointer (some ⟨L.bv, 0, none⟩)]] 167 (0, 0))
  rd : RdF L.B w (.slice L.A L.f.length L.c) L.f
  bd : IsB L.B L.b l v w
  r1 : IsRep L.rt (psQ false) Fs w
  r2 : IsRep L.rv (psQ true) Fs w
  fs : ∀ k, Fs k → k < w.heap.size ∧ k ≠ L.b ∧ k ≠ L.rt ∧ k ≠ L.rv ∧ v.ownBlock ≠ some k
  own : ∀ g, v.ownBlock = some g → L.Bp ≤ g
  sz : L.Bp ≤ w.heap.size
def Grew (w : World) (v v' : Value) : Prop := v'.ownBlock = v.ownBlock ∨ ∃ g, v'.ownBlock = some g ∧ w.heap.size ≤ g
theorem Grew.refl (w : World) (v : Value) : Grew w v v := .inl rfl
theorem Grew.trans {w w1 : World} {v v1 v2 : Value} (h : Grew w v v1) (k : Grew w1 v1 v2) (hs : w.heap.size ≤ w1.heap.size) : Grew w v v2 := by
  rcases k with k | ⟨g, k1, k2⟩
  · unfold Grew; rw [k]; exact h
  · exact .inr ⟨g, k1, Nat.le_trans hs k2⟩
theorem YP.trans {L : Lay} {v v1 : Value} {w w1 w2 : World} (h : Off (YP L v) w w1) (g : Grew w v v1) (k : Off (YP L v1) w1 w2) : Off (YP L v) w w2 :=
  h.trans' k (fun b hb => by
    rcases hb with hb | hb | hb | hb
    · exact .inl (.inl hb)
    · exact .inl (.inr (.inl hb))
    · exact .inl (.inr (.inr (.inl hb)))
    · rcases g with g | ⟨x, g1, g2⟩
      · exact .inl (.inr (.inr (.inr (by rw [← g]; exact hb))))
      · rw [g1] at hb; injection hb with hb; subst hb; exact .inr g2)
/-- A block that no step turns. -/
def Safe (L : Lay) (v : Value) (g : Nat) : Prop := ¬ YP L v g
theorem Safe.step {L : Lay} {v v' : Value} {w : World} {g : Nat} (h : Safe L v g) (hg : Grew w v v') (hlt : g < w.heap.size) : Safe L v' g := by
  intro hy
  rcases hy with hy | hy | hy | hy
  · exact h (.inl hy)
  · exact h (.inr (.inl hy))
  · exact h (.inr (.inr (.inl hy)))
  · rcases hg with hg | ⟨x, g1, g2⟩
    · exact h (.inr (.inr (.inr (by rw [← hg]; exact hy))))
    · rw [g1] at hy; injection hy with hy; omega
section
variable {L : Lay} {l : List UInt8} {v : Value} {Fs : Nat → Prop} {w w' : World}
theorem PInv.lo (h : PInv L l v Fs w) (ok : L.OK) : ∀ k, YP L v k → L.B ≤ k := by
  rintro k (rfl | rfl | rfl | hk)
  · exact ok.ge.1
  · exact ok.ge.2.1
  · exact ok.ge.2.2
  · have := h.own k hk
    have := ok.lt.1
    have := ok.ge.1
    omega
theorem PInv.safe (h : PInv L l v Fs w) (ok : L.OK) {g : Nat} (hg : g < L.Bp) (h1 : g ≠ L.b ∧ g ≠ L.rt ∧ g ≠ L.rv) : Safe L v g := by
  rintro (e | e | e | e)
  · exact h1.1 e
  · exact h1.2.1 e
  · exact h1.2.2 e
  · have := h.own g e; omega
/-- A fresh block is safe. -/
theorem PInv.fresh (h : PInv L l v Fs w) (ok : L.OK) {g : Nat} (hg : w.heap.size ≤ g) : Safe L v g := by
  have := h.sz
  have := ok.lt
  rintro (e | e | e | e)
  · omega
  · omega
  · omega
  · have := (h.bd.row.lt g e).2; omega
/-- The parts that the builder and the replacers leave as they are. -/
theorem PInv.turn {l' : List UInt8} {v' : Value} {Fs' : Nat → Prop} (h : PInv L l v Fs w) (ok : L.OK) (ho : Off (YP L v) w w') (hg : Grew w v v') (hbd : IsB L.B L.b l' v' w') (h1 : IsRep L.rt (psQ false) Fs' w') (h2 : IsRep L.rv (psQ true) Fs' w')
    (hfs : ∀ k, Fs' k → k < w'.heap.size ∧ k ≠ L.b ∧ k ≠ L.rt ∧ k ≠ L.rv ∧ v'.ownBlock ≠ some k) : PInv L l' v' Fs' w' where
  vF := ho.keep h.vF (h.safe ok ok.lt.2.2.2.2.2.1 ok.nF)
  vt := ho.keep h.vt (h.safe ok ok.lt.2.1 ok.nt)
  vv := ho.keep h.vv (h.safe ok ok.lt.2.2.1 ok.nv)
  vk := ho.keep h.vk (h.safe ok ok.lt.2.2.2.1 ok.nk)
  vp := ho.keep h.vp (h.safe ok ok.lt.2.2.2.2.1 ok.np)
  rd := h.rd.keep nodeE_keeps (ho.toBelow (by have := h.sz; have := ok.lt.1; have := ok.ge.1; omega) (h.lo ok)) (Nat.le_refl _)
  bd := hbd
  r1 := h1
  r2 := h2
  fs := hfs
  own := fun g hgo => by
    rcases hg with hg | ⟨x, g1, g2⟩
    · exact h.own g (by rw [← hg]; exact hgo)
    · rw [g1] at hgo; injection hgo with e; subst e; exact Nat.le_trans h.sz g2
  sz := Nat.le_trans h.sz ho.size
theorem PInv.still (h : PInv L l v Fs w) (ok : L.OK) (ho : Off (fun _ => False) w w') : PInv L l v Fs w' :=
  have hk : ∀ k, k < w.heap.size → w'.heap[k]? = w.heap[k]? := fun k hk => ho.block k hk id
  h.turn ok (ho.mono (fun _ _ x => x.elim)) (Grew.refl _ _) (h.bd.keep (hk _ h.bd.lt) (fun g hg => hk g (h.bd.row.lt g hg).2))
    (h.r1.keep (hk _ (by have := ok.lt; have := h.sz; omega)) (fun k hf => hk k (h.fs k hf).1) (fun _ x => x)) (h.r2.keep (hk _ (by have := ok.lt; have := h.sz; omega)) (fun k hf => hk k (h.fs k hf).1) (fun _ x => x))
    (fun k hf => ⟨Nat.lt_of_lt_of_le (h.fs k hf).1 ho.size, (h.fs k hf).2⟩)
theorem PInv.alloc (h : PInv L l v Fs w) (ok : L.OK) (o : Obj) : PInv L l v Fs (w.alloc o) := h.still ok (Off.alloc _ _ _)
theorem PInv.drew (h : PInv L l v Fs w) (ok : L.OK) : PInv L l v Fs w.drew := h.still ok (Off.drew _ _)
end
/-- What a step leaves that prints p. -/
def PPost (L : Lay) (l p : List UInt8) (v : Value) (w w' : World) : Prop := ∃ v' Fs', PInv L (l ++ p) v' Fs' w' ∧ Off (YP L v) w w' ∧ Grew w v v'
theorem write_P (L : Lay) (ok : L.OK) (l : List UInt8) (v : Value) (Fs : Nat → Prop) (w : World) (h : PInv L l v Fs w) (s : ByteArray) (hl : l.length + s.size ≤ 140737488355328) :
    Calls Tryz.prog 97 #[.pointer (some ⟨L.b, 0, none⟩), .string s] w fun e w' => e = .returned (.tuple #[.int .i64 s.size, .nilIface]) ∧ PPost L l s.data.toList v w w' := by
  refine (WriteString_calls L.B L.b l v s w h.bd hl).mono ?_
  rintro e w' ⟨rfl, v', hb, ho, hg⟩
  have ho' : Off (YP L v) w w' := ho.mono (fun k _ hk => hk.elim .inl (fun x => .inr (.inr (.inr x))))
  have hkeep : ∀ k, k < w.heap.size → k ≠ L.b → v.ownBlock ≠ some k → w'.heap[k]? = w.heap[k]? := fun k h1 h2 h3 => ho.block k h1 (fun x => x.elim h2 h3)
  have hown : ∀ k, k < L.Bp → v.ownBlock ≠ some k := fun k hk e => by have := h.own k e; omega
  refine ⟨rfl, v', Fs, h.turn ok ho' hg hb ?_ ?_ (fun k hk => ?_), ho', hg⟩
  · exact h.r1.keep (hkeep _ (by have := ok.lt; have := h.sz; omega) (fun e => ok.ne.1 e.symm) (hown _ (by have := ok.lt; omega))) (fun k hk => hkeep k (h.fs k hk).1 (h.fs k hk).2.1 (h.fs k hk).2.2.2.2) (fun _ x => x)
  · exact h.r2.keep (hkeep _ (by have := ok.lt; have := h.sz; omega) (fun e => ok.ne.2.1 e.symm) (hown _ (by have := ok.lt; omega))) (fun k hk => hkeep k (h.fs k hk).1 (h.fs k hk).2.1 (h.fs k hk).2.2.2.2) (fun _ x => x)
  · have := h.fs k hk
    refine ⟨Nat.lt_of_lt_of_le this.1 ho.size, this.2.1, this.2.2.1, this.2.2.2.1, ?_⟩
    rcases hg with hg | ⟨x, g1, g2⟩
    · rw [hg]; exact this.2.2.2.2
    · rw [g1]; intro e; injection e with e; omega
theorem rep_P (L : Lay) (ok : L.OK) (q : Bool) (r : Nat) (hr : r = if q then L.rv else L.rt) (l : List UInt8) (v : Value) (Fs : Nat → Prop) (w : World) (h : PInv L l v Fs w) (s : ByteArray) (hs : s.size ≤ 1000) :
    Calls Tryz.prog 98 #[.pointer (some ⟨r, 0, none⟩), .string s] w fun e w' => e = .returned (.string ⟨(esc q s.data.toList).toArray⟩) ∧ ∃ Fs', PInv L l v Fs' w' ∧ Off (YP L v) w w' := by
  have hrep : IsRep r (psQ q) Fs w := by cases q; rw [hr]; exact h.r1; rw [hr]; exact h.r2
  have hrne : ∀ k, Fs k → k < w.heap.size ∧ k ≠ r := fun k hk => ⟨(h.fs k hk).1, by cases q; rw [hr]; exact (h.fs k hk).2.2.1; rw [hr]; exact (h.fs k hk).2.2.2.1⟩
  have hrY : YP L v r := by cases q; rw [hr]; exact .inr (.inl rfl); rw [hr]; exact .inr (.inr (.inl rfl))
  have hrb : L.b ≠ r := by cases q; rw [hr]; exact ok.ne.1; rw [hr]; exact ok.ne.2.1
  have hrl : r < L.Bp := by have := ok.lt; cases q <;> simp at hr <;> omega
  refine (Replace_calls w (psQ q) (psQ_good q) r Fs hrep hrne s hs).mono ?_
  rintro e w' ⟨rfl, F', hr', hF', ho⟩
  rw [psQ_rp]
  have ho' : Off (YP L v) w w' := ho.mono (fun k _ hk => by rw [hk]; exact hrY)
  have hkeep : ∀ k, k < w.heap.size → k ≠ r → w'.heap[k]? = w.heap[k]? := fun k h1 h2 => ho.block k h1 h2
  have hown : ∀ k, k < L.Bp → v.ownBlock ≠ some k := fun k hk e => by have := h.own k e; omega
  have hfs : ∀ k, (Fs k ∨ F' k) → k < w'.heap.size ∧ k ≠ L.b ∧ k ≠ L.rt ∧ k ≠ L.rv ∧ v.ownBlock ≠ some k := by
    have hsz := h.sz
    have hlt := ok.lt
    have old : ∀ k, Fs k → k < w'.heap.size ∧ k ≠ L.b ∧ k ≠ L.rt ∧ k ≠ L.rv ∧ v.ownBlock ≠ some k := fun k hk => ⟨Nat.lt_of_lt_of_le (h.fs k hk).1 ho.size, (h.fs k hk).2⟩
    rintro k (hk | hk)
    · exact old k hk
    · rcases (hF' k hk).1 with hk2 | hk2
      · exact old k hk2
      · refine ⟨(hF' k hk).2.1, by omega, by omega, by omega, fun e => ?_⟩
        have := (h.bd.row.lt k e).2
        omega
  have hbd : IsB L.B L.b l v w' := h.bd.keep (hkeep _ h.bd.lt hrb) (fun g hg => hkeep g (h.bd.row.lt g hg).2 (fun e => by have := h.own g hg; omega))
  have mine : IsRep r (psQ q) (fun k => Fs k ∨ F' k) w' := hr'.keep rfl (fun _ _ => rfl) (fun _ x => .inr x)
  refine ⟨rfl, _, h.turn ok ho' (Grew.refl _ _) hbd ?_ ?_ hfs, ho'⟩
  · cases q with
    | false => simp at hr; subst hr; exact mine
    | true => simp at hr; subst hr; exact h.r1.keep (hkeep _ (by have := ok.lt; have := h.sz; omega) ok.ne.2.2) (fun k hk => hkeep k (h.fs k hk).1 (h.fs k hk).2.2.2.1) (fun _ x => .inl x)
  · cases q with
    | true => simp at hr; subst hr; exact mine
    | false => simp at hr; subst hr; exact h.r2.keep (hkeep _ (by have := ok.lt; have := h.sz; omega) (fun e => ok.ne.2.2 e.symm)) (fun k hk => hkeep k (h.fs k hk).1 (h.fs k hk).2.2.1) (fun _ x => .inl x)
end Go.Proofs.YthdenkkllpkplaaGreat.Pr
end
section
/- A forest's node in the model; the copy of a forest. -/
namespace Go.Proofs.YthdenkkllpkplaaGreat.LKinds
open Go Go.RowKit Go.Proofs.YthdenkkllpkplaaGreat.Seq Go.Proofs.YthdenkkllpkplaaGreat.WS Go.Proofs.YthdenkkllpkplaaGreat.FS Go.Proofs.YthdenkkllpkplaaGreat.Mem Go.Proofs.YthdenkkllpkplaaGreat.Rd Go.Proofs.YthdenkkllpkplaaGreat.Shapes Go.Proofs.YthdenkkllpkplaaGreat.Word Go.Proofs.YthdenkkllpkplaaGreat.FFam Go.Proofs.YthdenkkllpkplaaGreat.OwnF
set_option linter.unusedVariables false
set_option linter.unusedSimpArgs false

theorem info_node : (Tryz.prog.info? 55).map (fun i => (i.zero, i.size, i.bytes)) = some (some (.agg #[.int .i64 0, .string ⟨#[]⟩, .string ⟨#[]⟩, .slice none 0 0, .int .i64 0, .slice none 0 0]), 6, 96) := by kernel_rfl
theorem pl_clone {ops : Array Oper} {rest : List Oper} {o : Oper} {a : Act} {Q : Exit → Act → World → Prop} (W : World) (hgd : o.guard = none) (s x : Operand)
    (ho : o.op = .call { callee := .builtin .append, args := #[s, x], argTypes := #[28, 28] }) (A : Option Addr) (c : Nat) (f : Fo) (hs : a.eval s = .slice (some ⟨W.heap.size, 0, none⟩) 0 0) (hx : a.eval x = .slice A f.length c)
    (hf : RdF W.heap.size W (.slice A f.length c) f) (h0 : 0 < f.length) (h1 : f.length ≤ 1000)
    (h : ∀ g cap w1, OwnF 55 W.heap.size w1 (.slice (some ⟨g, 0, none⟩) f.length cap) f → Below W.heap.size W w1 → W.heap.size ≤ g → g < w1.heap.size → wpList Tryz.prog ops Q rest (a.put o.dst (.slice (some ⟨g, 0, none⟩) f.length cap)) w1) :
    wpList Tryz.prog ops Q (o :: rest) a (W.alloc (.cells #[] 55)) := by
  obtain ⟨i0, hi, hz0, hz1, hz2⟩ := info_parts info_node
  obtain ⟨b, off, xs, rfl, hb, hl, hc, hn⟩ := rd_cells hf (Nat.le_refl _) h0
  have hown : (W.alloc (.cells #[] 55)).ownsRow W.heap.size 55 6 (.slice (some ⟨W.heap.size, 0, none⟩) 0 0) 0 [] := World.ownsRow_made W #[] 0 (Nat.le_refl _) (by simp [maxLen]) (by simp)
  have hone : ∀ u ∈ xs, u.oneCell' = true := by
    intro u hu
    obtain ⟨j, hj, rfl⟩ := List.mem_iff_getElem.1 hu
    have h6 := hn (j / 6) (by omega)
    refine h6.one _ ?_
    rw [List.mem_iff_getElem?]
    refine ⟨j % 6, ?_⟩
    rw [List.getElem?_take, if_pos (Nat.mod_lt _ (by decide)), List.getElem?_drop, show j / 6 * 6 + j % 6 = j by omega, List.getElem?_eq_getElem hj]
  refine wpList_append_own_at (W.alloc (.cells #[] 55)) hgd s x 28 ho W.heap.size 55 i0 _ 6 96 Tryz.underlying28 hi hz0 hz1 hz2 rfl (by decide) _ 0 [] hs hown ⟨b, off, none⟩ f.length c xs hx (by omega) (fun j u hj => ?_) hone (by simp only [maxLen]; omega) (by omega) (by simp) ?_
  · rw [Addr.add_lit]
    exact cell_alloc (hc j u hj) _
  · intro v' w' ho' hg' hnil hat
    have hO := OwnF.more (f := []) (g := f) (v' := v') hown (fun i hi => absurd hi (by simp)) hl (fun i hi => (hn i hi).keep (w' := W.alloc (.cells #[] 55)) (fun b hb _ => Below.heap_alloc _ _ _ hb) (by simp) (fun b hb _ e => by injection e with e; have : W.heap.size = b := e; omega)) (by simpa using ho') hg' (by
      rcases hat with e | e
      · exact .inl e
      · exact .inr e)
    rw [List.nil_append] at hO
    obtain ⟨g, cap, rfl, hge, hlt, _⟩ := hO.form h0
    refine h g cap w' hO ?_ hge hlt
    exact ((Off.alloc (fun b => W.heap.size ≤ b) W _).trans (Off.grown hg' (fun r hr => by injection hr with hr; have : W.heap.size = r := hr; omega))).toBelow (Nat.le_refl _) (fun b hb => hb)
end Go.Proofs.YthdenkkllpkplaaGreat.LKinds
end
