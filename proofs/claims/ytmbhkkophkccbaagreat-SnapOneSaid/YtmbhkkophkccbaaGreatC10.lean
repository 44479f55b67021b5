import Derived.Lib.JoinLaws
import Derived.Deep.WholeRow
import Derived.WalkSpells
import Derived.Laws.IdiomStrings
import Derived.Shelf.Strings.Count
import Derived.Test.YtmbhkkophkccbaaGreatProg
import Derived.Laws.CopyOwn
import Derived.StillTailTactics
import Derived.Deep.QuietTactic
import Derived.BigQuiet
import Derived.Deep.DeepCutAuto
import Derived.IntWalk
import Derived.Test.YtmbhkkophkccbaaGreatC08
section
namespace Go.Proofs.YtmbhkkophkccbaaGreat.ReplB
open Go Go.RowKit Go.Proofs.YtmbhkkophkccbaaGreat.Seq Mem Build Repl
set_option linter.unusedVariables false
set_option linter.unusedSimpArgs false

theorem build_table (A : Option Addr) (n c : Nat) (w : World) : (Instr.build 331 #[(1, .slice A n c)]).run Tryz.prog w = .ok (.agg (tabRow (fun _ => .slice none 0 0) (.slice A n c))) w := by kernel_rfl
theorem zero_table (w : World) : (zeroValue 331).run Tryz.prog w = .ok (.agg (tabRow (fun _ => .slice none 0 0) (.slice none 0 0))) w := by kernel_rfl
theorem zero_cells : Tryz.zeroCells331 = tabRow (fun _ => .slice none 0 0) (.slice none 0 0) := by kernel_rfl
theorem tab_size (tb : Nat → Value) (tr : Value) : (tabRow tb tr).size = 257 := by simp [tabRow]
theorem tab_get (tb : Nat → Value) (tr : Value) {c : Nat} (h : c < 256) : (tabRow tb tr)[c]? = some (tb c) := by simp [tabRow, List.getElem?_append_left, h]
theorem tab_last (tb : Nat → Value) (tr : Value) : (tabRow tb tr)[256]? = some tr := by simp [tabRow]
def updT (tb : Nat → Value) (i : Nat) (v : Value) : Nat → Value := fun j => if j = i then v else tb j
theorem tab_set (tb : Nat → Value) (tr v : Value) {c : Nat} (h : c < 256) : (tabRow tb tr).setIfInBounds c v = tabRow (updT tb c v) tr := by
 apply Array.ext_getElem?
 intro j
 rw [Array.getElem?_setIfInBounds]
 rcases Nat.lt_trichotomy j 256 with hj | hj | hj
 ·rw [tab_get _ _ hj, tab_get _ _ hj, tab_size]
  unfold updT
  by_cases e : c = j
  ·subst e; simp [show c < 257 by omega]
  ·rw [if_neg e, if_neg (fun h => e h.symm)]
 ·subst hj
  rw [if_neg (by omega), tab_last, tab_last]
 ·rw [if_neg (by omega), Array.getElem?_eq_none (by rw [tab_size]; omega), Array.getElem?_eq_none (by rw [tab_size]; omega)]
theorem tab_set_last (tb : Nat → Value) (tr v : Value) : (tabRow tb tr).setIfInBounds 256 v = tabRow tb v := by
 apply Array.ext_getElem?
 intro j
 rw [Array.getElem?_setIfInBounds]
 rcases Nat.lt_trichotomy j 256 with hj | hj | hj
 ·rw [tab_get _ _ hj, tab_get _ _ hj, if_neg (by omega)]
 ·subst hj
  rw [if_pos rfl, tab_size, tab_last]; simp
 ·rw [if_neg (by omega), Array.getElem?_eq_none (by rw [tab_size]; omega), Array.getElem?_eq_none (by rw [tab_size]; omega)]

theorem tab_one {tb : Nat → Value} {tr : Value} (h : ∀ i, (tb i).oneCell' = true) (h2 : tr.oneCell' = true) : (tabRow tb tr).all (·.oneCell') = true := by
 unfold tabRow
 rw [List.all_toArray]
 simp only [List.all_append, List.all_map, Bool.and_eq_true, List.all_eq_true]
 exact ⟨fun x _ => h x, by simp [h2]⟩
theorem store_table (W : World) (b : Nat) (hb : b = W.heap.size) (A : Option Addr) (n c : Nat) : (storeCells ⟨b, 0, none⟩ (Tryz.zeroCells331.toList.set 256 (.slice A n c)) 0).run Tryz.prog (W.alloc (.cells Tryz.zeroCells331 331)) =
  .ok () (W.alloc (.cells (tabRow (fun _ => .slice none 0 0) (.slice A n c)) 331)) := by
 subst hb
 rw [zero_cells, show (tabRow (fun _ => .slice none 0 0) (.slice none 0 0)).toList.set 256 (.slice A n c) = (tabRow (fun _ => .slice none 0 0) (.slice A n c)).toList by have := congrArg Array.toList (tab_set_last (fun _ => .slice none 0 0) (.slice none 0 0) (.slice A n c)); rwa [Array.toList_setIfInBounds] at this]
 exact run_storeCells_new (P := Tryz.prog) W _ _ _ (by rw [tab_size]; kernel_rfl) (by rw [tab_size, tab_size]) (tab_one (fun _ => rfl) rfl)

structure Good (ps : Pairs) : Prop where
 two : 2 ≤ ps.length
 few : ps.length ≤ 100
 once : (ps.map (·.1)).Nodup
 long : ∀ p ∈ ps, 2 ≤ p.2.length ∧ p.2.length ≤ 1000
theorem table_new (w : World) (n : Nat) (hn : n ≤ maxLen) : Table (w.heap.size + 1) [] (keysOf []) (fun k => w.heap.size ≤ k ∧ k < ((w.alloc (.cells (madeCells #[.string ⟨#[]⟩] n) 9)).alloc (.cells (tabRow (fun _ => .slice none 0 0) (.slice (some ⟨w.heap.size, 0, none⟩) 0 n)) 331)).heap.size)
  ((w.alloc (.cells (madeCells #[.string ⟨#[]⟩] n) 9)).alloc (.cells (tabRow (fun _ => .slice none 0 0) (.slice (some ⟨w.heap.size, 0, none⟩) 0 n)) 331)) := by
 refine ⟨_, _, heap_new (by simp), ⟨by simp, by simp⟩, fun c => ⟨fun _ => rfl, fun r hr => by cases hr⟩, ?_, fun g hg => ?_⟩
 ·have h := World.ownsRow_made (base := 0) (size := 1) (e := 9) w (madeCells #[.string ⟨#[]⟩] n) n (Nat.zero_le _) hn (by simp [madeCells])
  exact own_keep h (fun g hg => Below.heap_alloc _ _ _ (h.lt g hg).2)
 ·simp [Value.ownBlock] at hg
  subst hg
  simp; omega
theorem lkd_none {ps : Pairs} {c : UInt8} (h : ∀ p ∈ ps, p.1 ≠ c) : lkd ps c = none := by
 unfold lkd
 rw [Option.map_eq_none_iff, List.find?_eq_none]
 intro p hp
 simpa using h p hp
theorem lkd_fresh {ps : Pairs} (h : (ps.map (·.1)).Nodup) {m : Nat} (hm : m < ps.length) : lkd (ps.drop (m + 1)) ps[m].1 = none := by
 refine lkd_none (fun p hp e => ?_)
 have h1 : (ps.drop m) = ps[m] :: ps.drop (m + 1) := List.drop_eq_getElem_cons hm
 have h2 : ((ps.drop m).map (·.1)).Nodup := by rw [List.map_drop]; exact h.sublist (List.drop_sublist _ _)
 rw [h1, List.map_cons, List.nodup_cons] at h2
 exact h2.1 (by rw [← e]; exact List.mem_map_of_mem hp)
theorem lkd_cons (c : UInt8) (r : List UInt8) (ps : Pairs) (d : UInt8) : lkd ((c, r) :: ps) d = if c = d then some r else lkd ps d := by
 unfold lkd
 rw [List.find?_cons]
 by_cases h : c = d
 ·subst h; simp
 ·rw [show (((c, r) : UInt8 × List UInt8).1 == d) = false by simpa using h, if_neg h]
theorem table_step {wr w7 : World} {base T : Nat} {ps : Pairs} {ks : List UInt8} {c : UInt8} {r : List UInt8} {s1 s2 : ByteArray} {v7 : Value} {n gc g7 cap7 : Nat} {fz : Nat × Nat} {tb : Nat → Value} {tr : Value}
  (h1 : wr.heap[T]? = some (.cells (tabRow tb tr) 331 (0, 0))) (h2 : base ≤ T)
  (h3 : ∀ d : UInt8, (lkd ps d = none → tb d.toNat = .slice none 0 0) ∧ ∀ r, lkd ps d = some r → ∃ g cap, tb d.toNat = .slice (some ⟨g, 0, none⟩) r.length cap ∧ (base ≤ g ∧ g < wr.heap.size) ∧ g ≠ T ∧ tr.ownBlock ≠ some g ∧ g < wr.heap.size ∧ ∀ j (h : j < r.length), wr.cell? ⟨g, j, none⟩ = some (.int .u8 (r[j].toNat : Int)))
  (h5 : ∀ g, tr.ownBlock = some g → (base ≤ g ∧ g < wr.heap.size) ∧ g ≠ T)
  (hs1 : s1 = ⟨#[c]⟩) (hs2 : s2 = ⟨r.toArray⟩) (hv : v7 = .slice (some ⟨g7, 0, none⟩) n cap7)
  (hg : (wr.alloc (.cells #[.int .u8 c.toNat] 5)).grownBy w7 tr.ownBlock) (hown : w7.ownsRow 0 9 1 v7 (ks.map (fun c => Value.string ⟨#[c]⟩) ++ [Value.string s1]).length (ks.map (fun c => Value.string ⟨#[c]⟩) ++ [Value.string s1]))
  (hat : tr.ownBlock = some g7 ∨ (wr.alloc (.cells #[.int .u8 c.toNat] 5)).heap.size ≤ g7) {w : World} (hw : base = w.heap.size) (hb : Below base w wr) :
  Table T ((c, r) :: ps) (ks ++ [c]) (fun k => base ≤ k ∧ k < ((((w7.setCell ⟨T, 256, none⟩ v7).setCell ⟨T, c.toNat, none⟩ (.slice (some ⟨w7.heap.size, 0, none⟩) s2.size gc)).alloc (.cells (bytesRow s2 gc) 5 fz)).drew).heap.size)
   ((((w7.setCell ⟨T, 256, none⟩ v7).setCell ⟨T, c.toNat, none⟩ (.slice (some ⟨w7.heap.size, 0, none⟩) s2.size gc)).alloc (.cells (bytesRow s2 gc) 5 fz)).drew) ∧
  Below base w ((((w7.setCell ⟨T, 256, none⟩ v7).setCell ⟨T, c.toNat, none⟩ (.slice (some ⟨w7.heap.size, 0, none⟩) s2.size gc)).alloc (.cells (bytesRow s2 gc) 5 fz)).drew) := by
 have hc := UInt8.toNat_lt c
 have hTw := lt_heap h1
 have hsz : (wr.alloc (.cells #[.int .u8 c.toNat] 5)).heap.size = wr.heap.size + 1 := by simp
 have hgs := hg.size
 have hT7 : w7.heap[T]? = some (.cells (tabRow tb tr) 331 (0, 0)) := (hg.block T (by omega) (fun e => (h5 T e.symm).2 rfl)).trans (heap_old h1)
 have hT8 := setCell_row (i := c.toNat) (v := .slice (some ⟨w7.heap.size, 0, none⟩) s2.size gc) (setCell_row (i := 256) (v := v7) hT7)
 rw [tab_set_last, tab_set _ _ _ (by omega)] at hT8
 have h8o : ∀ k, k ≠ T → ((w7.setCell ⟨T, 256, none⟩ v7).setCell ⟨T, c.toNat, none⟩ (.slice (some ⟨w7.heap.size, 0, none⟩) s2.size gc)).heap[k]? = w7.heap[k]? := fun k hk => (heap_set_other hk).trans (heap_set_other hk)
 have h8s : ((w7.setCell ⟨T, 256, none⟩ v7).setCell ⟨T, c.toNat, none⟩ (.slice (some ⟨w7.heap.size, 0, none⟩) s2.size gc)).heap.size = w7.heap.size := by simp [World.setCell]
 generalize hW8 : (w7.setCell ⟨T, 256, none⟩ v7).setCell ⟨T, c.toNat, none⟩ (.slice (some ⟨w7.heap.size, 0, none⟩) s2.size gc) = W8 at *
 have hob8 : Off (fun k => base ≤ k) w7 W8 := by rw [← hW8]; exact (Off.setCell _ _ _ h2).trans (Off.setCell _ _ _ h2)
 have hold : ∀ k, k < W8.heap.size → ((W8.alloc (.cells (bytesRow s2 gc) 5 fz)).drew).heap[k]? = W8.heap[k]? := fun k hk => Below.heap_alloc _ _ _ hk
 have hnew : ((W8.alloc (.cells (bytesRow s2 gc) 5 fz)).drew).heap[w7.heap.size]? = some (.cells (bytesRow s2 gc) 5 fz) := by rw [← h8s]; exact World.alloc_heap_new _ _
 have hsize : ((W8.alloc (.cells (bytesRow s2 gc) 5 fz)).drew).heap.size = w7.heap.size + 1 := by simp [h8s]
 have h7lt : g7 < w7.heap.size := (hown.lt g7 (by rw [hv]; rfl)).2
 refine ⟨⟨updT tb c.toNat (.slice (some ⟨w7.heap.size, 0, none⟩) s2.size gc), v7, (hold T (by omega)).trans hT8, ⟨h2, by rw [hsize]; omega⟩, fun d => ?_, ?_, ?_⟩, ?_⟩
 ·rw [lkd_cons]
  by_cases hcd : c = d
  ·subst hcd
   rw [if_pos rfl]
   refine ⟨(fun h => by cases h), fun r' hr => ?_⟩
   injection hr with hr
   subst hr
   refine ⟨w7.heap.size, gc, ?_, ⟨?_, ?_⟩, ?_, ?_, ?_, fun j hj => ?_⟩
   ·rw [updT, if_pos rfl, hs2]; rfl
   ·omega
   ·rw [hsize]; omega
   ·omega
   ·rw [hv]; intro e; injection e with e; have e2 : g7 = w7.heap.size := e; omega
   ·rw [hsize]; omega
   ·rw [cell_of_row _ _ _ _ _ _ hnew, bytesRow_at _ _ _ (by rw [hs2]; simpa using hj)]
    simp [hs2]
  ·rw [if_neg hcd]
   have hne : ¬ d.toNat = c.toNat := fun e => hcd (UInt8.toNat_inj.1 e.symm)
   rw [updT, if_neg hne]
   refine ⟨(h3 d).1, fun r' hr => ?_⟩
   obtain ⟨g, cap, e1, e2, e3, e4, e5, e6⟩ := (h3 d).2 r' hr
   have k1 : ((W8.alloc (.cells (bytesRow s2 gc) 5 fz)).drew).heap[g]? = wr.heap[g]? := (hold g (by omega)).trans ((h8o g e3).trans ((hg.block g (by omega) (fun e => e4 e.symm)).trans (Below.heap_alloc _ _ _ e5)))
   refine ⟨g, cap, e1, ⟨e2.1, by rw [hsize]; omega⟩, e3, ?_, by rw [hsize]; omega, fun j hj => (cell_same k1 j).trans (e6 j hj)⟩
   rw [hv]
   intro e
   injection e with e
   rcases hat with hat | hat
   ·exact e4 (by rw [hat]; exact congrArg some e)
   ·have : g7 = g := e
    omega
 ·have h9 := own_keep hown (w' := (W8.alloc (.cells (bytesRow s2 gc) 5 fz)).drew) (fun g hg' => by
   rw [hv] at hg'
   have e : g7 = g := by injection hg'
   subst e
   refine (hold g7 (by omega)).trans (h8o g7 ?_)
   rcases hat with hat | hat
   ·exact (h5 g7 hat).2
   ·omega)
  rw [show (ks ++ [c]).map (fun c => Value.string ⟨#[c]⟩) = ks.map (fun c => Value.string ⟨#[c]⟩) ++ [Value.string s1] by rw [List.map_append, hs1]; rfl]
  rw [show (ks ++ [c]).length = (ks.map (fun c => Value.string ⟨#[c]⟩) ++ [Value.string s1]).length by simp]
  exact h9
 ·intro g hg'
  rw [hv] at hg'
  have e : g7 = g := by injection hg'
  subst e
  rcases hat with hat | hat
  ·have := h5 g7 hat
   exact ⟨⟨this.1.1, by rw [hsize]; omega⟩, this.2⟩
  ·exact ⟨⟨by have := hb.size; omega, by rw [hsize]; omega⟩, by omega⟩
 ·have b1 : Off (fun k => base ≤ k) wr (wr.alloc (.cells #[.int .u8 c.toNat] 5)) := Off.alloc _ _ _
  have b2 : Off (fun k => base ≤ k) (wr.alloc (.cells #[.int .u8 c.toNat] 5)) w7 := Off.grown hg (fun k hk => (h5 k hk).1.1)
  have b3 := ((b1.trans b2).trans hob8).trans ((Off.alloc _ W8 (.cells (bytesRow s2 gc) 5 fz)).trans (Off.drew _ _))
  exact hb.trans (b3.toBelow (by have := hb.size; omega) (fun k hk => hk))
def BuildPost (w : World) (ps : Pairs) (e : Ending) (w' : World) : Prop :=
 ∃ T F, e = .returned (.iface 332 (.pointer (some ⟨T, 0, none⟩))) ∧ Table T ps (keysOf ps) F w' ∧ (∀ k, F k → w.heap.size ≤ k ∧ k < w'.heap.size) ∧ Below w.heap.size w w'
set_option maxRecDepth 100000 in
set_option maxHeartbeats 4000000 in
theorem build_calls (w : World) (ps : Pairs) (G : Good ps) (rb : Nat) (so : Value) (d1 d2 : Value) (hr : w.heap[rb]? = some (.cells #[d1, d2, .int .u32 0, .nilIface, so] 300 (0, 0))) (hso : w.ownsRow 0 9 1 so (flat ps).length ((flat ps).map Value.string)) :
  Calls Tryz.prog 243 #[.pointer (some ⟨rb, 0, none⟩)] w (BuildPost w ps) := by
 have hl := flat_length ps
 have hg2 := G.two
 have hg3 := G.few
 obtain ⟨g, cp, rfl, hgw, hcell⟩ : ∃ g cp, so = .slice (some ⟨g, 0, none⟩) (2 * ps.length) cp ∧ g < w.heap.size ∧ ∀ i (h : i < (flat ps).length), w.cell? ⟨g, i, none⟩ = some (.string (flat ps)[i]) := by
  have hc := fun gg hgg i s hi => hso.cells (g := gg) hgg i s hi
  have hlt := hso.lt
  rcases hso.2 with ⟨rfl, h0⟩ | ⟨g, cap, cur, rfl, _⟩
  ·omega
  ·refine ⟨g, cap, by rw [hl], (hlt g rfl).2, fun i hi => ?_⟩
   have := hc g rfl i (.string (flat ps)[i]) (by rw [List.getElem?_map, List.getElem?_eq_getElem hi]; rfl)
   rwa [Addr.add_lit, Nat.zero_add] at this
 have c4 : w.cell? ⟨rb, 4, none⟩ = some (.slice (some ⟨g, 0, none⟩) (2 * ps.length) cp) := (cell_of_row _ _ _ _ _ _ hr).trans rfl
 have hev : ∀ w' : World, (∀ b o, b < w.heap.size → w'.cell? ⟨b, o, none⟩ = w.cell? ⟨b, o, none⟩) → ∀ k (h : k < ps.length), w'.cell? ⟨g, 2 * k, none⟩ = some (.string ⟨#[ps[k].1]⟩) := fun w' hw k h => by
  have h1 := flat_even h
  have h2 : 2 * k < (flat ps).length := by omega
  rw [hw _ _ hgw, hcell _ h2]
  rw [List.getElem?_eq_getElem h2] at h1
  injection h1 with h1
  rw [h1]
 have hod : ∀ w' : World, (∀ b o, b < w.heap.size → w'.cell? ⟨b, o, none⟩ = w.cell? ⟨b, o, none⟩) → ∀ k (h : k < ps.length), w'.cell? ⟨g, 2 * k + 1, none⟩ = some (.string ⟨ps[k].2.toArray⟩) := fun w' hw k h => by
  have h1 := flat_odd h
  have h2 : 2 * k + 1 < (flat ps).length := by omega
  rw [hw _ _ hgw, hcell _ h2]
  rw [List.getElem?_eq_getElem h2] at h1
  injection h1 with h1
  rw [h1]
 have Hev := Lib.hid hev; have Hod := Lib.hid hod; have HG := Lib.hid G
 obtain ⟨L, hL⟩ : ∃ L, L = 2 * ps.length := ⟨_, rfl⟩
 rw [← hL] at c4
 have hne2 : ((L : Int) == 2) = false := by rw [beq_eq_false_iff_ne]; omega
 have hL2 : 4 ≤ L := by omega
 have hL3 : L ≤ 200 := by omega
 have HL := Lib.hid hL
 clear hev hod hcell hso hl G hr hg2 hg3 hL
 go_enter Tryz.func243, Tryz.ntmps243
 go_wp2_with fail
 go_loop [4, 5] (fun a i => ∃ k j : Nat, Hid (j = 2 * k) ∧ j ≤ L ∧ i = .int .i64 j ∧ a = .bool (k == 0)) (fun _ i => L - (intOf i).toNat)
 case atStart => exact ⟨0, 0, Lib.hid rfl, by omega, rfl, rfl⟩
 case round =>
  obtain ⟨k, j, hj, hjL, rfl, rfl⟩ := hrel
  by_cases hlt : j < L
  ·have hk : k < ps.length := by have := HL.out; have := hj.out; omega
   have e1 := Hev.out w (fun _ _ _ => rfl) k hk
   have e2 := Hod.out w (fun _ _ _ => rfl) k hk
   rw [← hj.out] at e1 e2
   have hp := HG.out.long ps[k] (List.getElem_mem _)
   have hjL2 : j + 2 ≤ L := by have := HL.out; have := hj.out; omega
   obtain ⟨s1, hs1⟩ : ∃ s1 : ByteArray, s1 = ⟨#[ps[k].1]⟩ := ⟨_, rfl⟩
   obtain ⟨s2, hs2⟩ : ∃ s2 : ByteArray, s2 = ⟨ps[k].2.toArray⟩ := ⟨_, rfl⟩
   rw [← hs1] at e1
   rw [← hs2] at e2
   have z1 : ((s1.size : Int) != 1) = false := by rw [hs1]; rfl
   have z2 : ((s2.size : Int) != 1) = true := by rw [bne_iff_ne, hs2]; have : (⟨ps[k].2.toArray⟩ : ByteArray).size = ps[k].2.length := rfl; omega
   clear hp hs1 hs2 hk
   go_wp2_with fail
   go_round
   case rel => exact ⟨k + 1, j + 2, Lib.hid (by have := hj.out; omega), hjL2, by go_num, rfl⟩
   case measure => simp [intOf]; omega
  ·obtain rfl : j = L := by omega
   have hk0 : (k == 0) = false := by rw [beq_eq_false_iff_ne]; have := hj.out; omega
   have hdiv : (j : Int) / 2 = (ps.length : Nat) := by have := HL.out; omega
   have hN := HG.out.few
   have hmk := fun W => run_make_room (P := Tryz.prog) 258 9 (.string ⟨#[]⟩) 16 Tryz.underlying258 info_str rfl .i64 .i64 ps.length (by omega) (by omega) W
   have hst := store_table (w.alloc (.cells (madeCells #[.string ⟨#[]⟩] ps.length) 9)) (w.heap.size + 1) (by simp) (some ⟨w.heap.size, 0, none⟩) 0 ps.length
   go_wp2_with fail
   clear hst hmk hdiv hk0
   obtain ⟨W0, hW0⟩ : ∃ W0, (w.alloc (.cells (madeCells #[.string ⟨#[]⟩] ps.length) 9)).alloc (.cells (tabRow (fun _ => .slice none 0 0) (.slice (some ⟨w.heap.size, 0, none⟩) 0 ps.length)) 331) = W0 := ⟨_, rfl⟩
   have hT0 := table_new w ps.length (by have := HG.out.few; simp only [maxLen]; omega)
   have hb0 : Below w.heap.size w W0 := by rw [← hW0]; exact ((Below.refl _ _).alloc (Nat.le_refl _) _).alloc (by simp) _
   rw [hW0] at hT0
   have HT0 := Lib.hid hT0; have Hb0 := Lib.hid hb0; have HW0 := Lib.hid hW0
   have hlen := HL.out
   rw [hW0]
   clear hT0 hb0 hW0 hj
   go_loopw [12] (fun i wr => ∃ (m : Nat) (z : Int), Hid (z = 2 * m - 2) ∧ m ≤ ps.length ∧ i = .int .i64 z ∧ Table (w.heap.size + 1) (ps.drop m) (keysOf (ps.drop m)) (fun k => w.heap.size ≤ k ∧ k < wr.heap.size) wr ∧ Below w.heap.size w wr) (fun i _ => (intOf i + 2).toNat)
   case atStart => exact ⟨ps.length, _, Lib.hid (by omega), Nat.le_refl _, rfl, by rw [List.drop_length]; exact HT0.out, Hb0.out⟩
   case round =>
    obtain ⟨m, z, hz, hm, rfl, hTb, hbw⟩ := hrel
    clear hlen
    cases m with
    | zero =>
     obtain rfl : z = -2 := by have := hz.out; omega
     have HTb := Lib.hid hTb; have Hbw := Lib.hid hbw
     clear hTb hbw hz hm
     go_wp2_with fail
     go_ret
     exact ⟨_, _, rfl, HTb.out, fun k hk => hk, Hbw.out⟩
    | succ m =>
     obtain ⟨i, hi⟩ : ∃ i : Nat, i = 2 * m := ⟨_, rfl⟩
     obtain rfl : z = i := by have := hz.out; omega
     have hk : m < ps.length := by omega
     have hij : i + 2 ≤ j := by have := HL.out; omega
     have hold := fun b o (h : b < w.heap.size) => hbw.cell (p := ⟨b, o, none⟩) h
     have e1 := Hev.out wr hold m hk
     have e2 := Hod.out wr hold m hk
     rw [← hi] at e1 e2
     obtain ⟨s1, hs1⟩ : ∃ s1 : ByteArray, s1 = ⟨#[ps[m].1]⟩ := ⟨_, rfl⟩
     obtain ⟨s2, hs2⟩ : ∃ s2 : ByteArray, s2 = ⟨ps[m].2.toArray⟩ := ⟨_, rfl⟩
     rw [← hs1] at e1
     rw [← hs2] at e2
     obtain ⟨c, hc⟩ : ∃ c : UInt8, c = ps[m].1 := ⟨_, rfl⟩
     have hix : ∀ W, (Instr.index 9 (.string s1) (.int .i64 0)).run Tryz.prog W = .ok (.int .u8 c.toNat) W := fun W => by rw [hs1, hc]; rfl
     have hc2 : (c.toNat : Int) < 256 := by have := UInt8.toNat_lt c; omega
     have qT : ∀ (w : World) (a : Option Addr) (n c n' c' : Nat), (binOp .eql 208 (.slice a n c) (.slice none n' c')).run Tryz.prog w = .ok (.bool a.isNone) w := fun w a n c n' c' => Lib.run_eql_slice_nil w _ _ a n c n' c' Tryz.underlying208
     have hnone : lkd (ps.drop (m + 1)) c = none := by rw [hc]; exact lkd_fresh HG.out.once hk
     have hTb' := hTb
     obtain ⟨tb, tr, t1, t2, t3, t4, t5⟩ := hTb
     obtain ⟨A3, n3, c3, rfl⟩ := own_form t4
     have tc := (t3 c).1 hnone
     have k1 : wr.cell? ⟨w.heap.size + 1, c.toNat, none⟩ = some (.slice none 0 0) := by rw [cell_of_row _ _ _ _ _ _ t1, tab_get _ _ (by have := UInt8.toNat_lt c; omega), tc]
     have k2 : wr.cell? ⟨w.heap.size + 1, 256, none⟩ = some (.slice A3 n3 c3) := by rw [cell_of_row _ _ _ _ _ _ t1, tab_last]
     have hcv := run_convert_bytes_back (P := Tryz.prog) (wr.alloc (.cells #[.int .u8 c.toNat] 5)) 208 9 5 ⟨wr.heap.size, 0, none⟩ 1 [c] Tryz.underlying208 Tryz.underlying5 Tryz.underlying9 (fun jj hjj => by
      have : jj = 0 := by simp at hjj; omega
      subst this
      simp [Addr.add])
     simp only [List.length_cons, List.length_nil, Nat.zero_add] at hcv
     rw [show (⟨[c].toArray⟩ : ByteArray) = s1 by rw [hs1, hc]] at hcv
     have hcs := fun W => run_bytes_of_string (P := Tryz.prog) W 9 208 5 s2 Tryz.underlying9 Tryz.underlying208 Tryz.underlying5
     have t4' : (wr.alloc (.cells #[.int .u8 c.toNat] 5)).ownsRow 0 9 1 (.slice A3 n3 c3) ((keysOf (ps.drop (m + 1))).map (fun c => Value.string ⟨#[c]⟩)).length ((keysOf (ps.drop (m + 1))).map (fun c => Value.string ⟨#[c]⟩)) := by rw [List.length_map]; exact own_keep t4 (fun g hg => Below.heap_alloc _ _ _ (t4.lt g hg).2)
     have HT4 := Lib.hid t4'; clear t4'
     have hkl : (keysOf (ps.drop (m + 1))).length ≤ 100 := by unfold keysOf; simp; have := HG.out.few; omega
     have HTb := Lib.hid hTb'; have Hbw := Lib.hid hbw; have Hs1 := Lib.hid hs1; have Hs2 := Lib.hid hs2; have Hc := Lib.hid hc; have Hi := Lib.hid hi
     have T1 := Lib.hid t1; have T3 := Lib.hid t3; have T4 := Lib.hid t4; have T5 := Lib.hid t5
     have hc256 : ¬ c.toNat = 256 := by have := UInt8.toNat_lt c; omega
     have hc257 : ¬ 256 = c.toNat := by omega
     have Htc := Lib.hid tc
     clear hTb' hbw hs1 hs2 hc hi hz t1 t2 t3 t4 t5 tc hnone hold
     go_wp2_with (at_builtin; go_loud (refine pl_append (wr.alloc (.cells #[.int .u8 c.toNat] 5)) 0 rfl _ _ 258 9 (.string ⟨#[]⟩) 16 rfl Tryz.underlying258 info_str rfl (.slice A3 n3 c3) ((keysOf (ps.drop (m + 1))).map (fun c => Value.string ⟨#[c]⟩)) (.string s1) rfl (by simp [Act.eval]) rfl HT4.out (Nat.zero_le _) (by rw [List.length_map]; omega) (by rw [List.length_map]; simp only [maxLen]; omega) ?_; rintro v7 w7 hown7 hgrow7 ⟨g7, cap7, rfl, hat7⟩; have h7 := (hgrow7.block (w.heap.size + 1) (Nat.lt_of_lt_of_le (lt_heap T1.out) (by simp)) (fun e => (T5.out _ e.symm).2 rfl)).trans (heap_old T1.out); have k7 : w7.cell? ⟨w.heap.size + 1, 256, none⟩ = some (.slice A3 n3 c3) := (by rw [cell_of_row _ _ _ _ _ _ h7, tab_last]); have l7 := lt_heap h7; have k7f := free_of h7 256; have k8 : w7.cell? ⟨w.heap.size + 1, c.toNat, none⟩ = some (.slice none 0 0) := (by rw [cell_of_row _ _ _ _ _ _ h7, tab_get _ _ (by have := UInt8.toNat_lt c; omega), Htc.out]); have k8f := free_of h7 c.toNat; have H7 := Lib.hid h7; clear h7; have Hown7 := Lib.hid hown7; have Hgrow7 := Lib.hid hgrow7; have Hat7 := Lib.hid hat7; clear hown7 hgrow7 hat7))
     go_roundw
     case rel =>
      have hdr : ps.drop m = (c, ps[m].2) :: ps.drop (m + 1) := by rw [List.drop_eq_getElem_cons hk, Hc.out]
      have hks : keysOf (ps.drop m) = keysOf (ps.drop (m + 1)) ++ [c] := by rw [hdr]; unfold keysOf; rw [List.map_cons, List.reverse_cons]
      refine ⟨m, _, Lib.hid rfl, by omega, by have := Hi.out; go_num, ?_, ?_⟩
      ·rw [hks, hdr]
       exact (table_step T1.out (by omega) T3.out T5.out (c := c) (s1 := s1) (by rw [Hs1.out, Hc.out]) Hs2.out rfl Hgrow7.out (by have h := Hown7.out; rw [List.length_map] at h; exact h) Hat7.out rfl Hbw.out).1
      ·exact (table_step T1.out (by omega) T3.out T5.out (c := c) (s1 := s1) (by rw [Hs1.out, Hc.out]) Hs2.out rfl Hgrow7.out (by have h := Hown7.out; rw [List.length_map] at h; exact h) Hat7.out rfl Hbw.out).2
     case measure => simp [intOf]; omega
end Go.Proofs.YtmbhkkophkccbaaGreat.ReplB
end
section
namespace Go.Proofs
open Go.Shelf
def Tryz.lays138_ren : Go.Shelf.Ren := ⟨fun | 138 => 310 | 195 => 311 | 218 => 312 | 143 => 313 | 219 => 314 | 217 => 222 | 225 => 247 | 224 => 246 | 267 => 315 | 266 => 240 | 314 => 316 | n => n, fun | 9 => 9 | 3 => 3 | 4 => 4 | 5 => 5 | 0 => 0 | 46 => 271 | 146 => 387 | 51 => 288 | n => n, fun | 1 => 0 | n => n⟩
theorem Tryz.lays138 : Go.Proofs.Lays.n138 Tryz.prog Tryz.lays138_ren := {
 mixed := by kernel_rfl
 f138 := Tryz.func310.trans (congrArg some (by kernel_rfl))
 f143 := Tryz.func313.trans (congrArg some (by kernel_rfl))
 f195 := Tryz.func311.trans (congrArg some (by kernel_rfl))
 f217 := Tryz.func222.trans (congrArg some (by kernel_rfl))
 f218 := Tryz.func312.trans (congrArg some (by kernel_rfl))
 f219 := Tryz.func314.trans (congrArg some (by kernel_rfl))
 f224 := Tryz.func246.trans (congrArg some (by kernel_rfl))
 f225 := Tryz.func247.trans (congrArg some (by kernel_rfl))
 f266 := Tryz.func240.trans (congrArg some (by kernel_rfl))
 f267 := Tryz.func315.trans (congrArg some (by kernel_rfl))
 f314 := Tryz.func316.trans (congrArg some (by kernel_rfl))
 t0 := Tryz.underlying0
 a0 := Tryz.isAgg0
 z0 := Tryz.sizeOf0
 v0 := Tryz.zeroValue0
 t3 := Tryz.underlying3
 a3 := Tryz.isAgg3
 z3 := Tryz.sizeOf3
 v3 := Tryz.zeroValue3
 t4 := Tryz.underlying4
 a4 := Tryz.isAgg4
 z4 := Tryz.sizeOf4
 v4 := Tryz.zeroValue4
 t5 := Tryz.underlying5
 a5 := Tryz.isAgg5
 z5 := Tryz.sizeOf5
 v5 := Tryz.zeroValue5
 t9 := Tryz.underlying9
 a9 := Tryz.isAgg9
 z9 := Tryz.sizeOf9
 v9 := Tryz.zeroValue9
 t46 := Tryz.underlying271
 a46 := Tryz.isAgg271
 z46 := Tryz.sizeOf271
 v46 := Tryz.zeroValue271
 t51 := Tryz.underlying288
 a51 := Tryz.isAgg288
 z51 := Tryz.sizeOf288
 v51 := Tryz.zeroValue288
 t146 := Tryz.underlying387
 a146 := Tryz.isAgg387
 z146 := Tryz.sizeOf387
 v146 := Tryz.zeroValue387
 g1 := by kernel_rfl }
open Go.RowKit Go.Lib in
theorem Tryz.strings_Count_one (s : ByteArray) (c : UInt8) (w : World) :
  Calls Tryz.prog 310 #[.string s, .string ⟨#[c]⟩] w fun e w' => e = .returned (.int .i64 (Lib.countByte s.data.toList c)) ∧ w' = w := Any.strings_Count_one Tryz.lays138 s c w
end Go.Proofs
end
section
namespace Go.Proofs.YtmbhkkophkccbaaGreat.ReplR
open Go Go.RowKit Go.Proofs.YtmbhkkophkccbaaGreat.Seq Mem Build Repl ReplB
set_option linter.unusedVariables false
set_option linter.unusedSimpArgs false

def rp1 (ps : Pairs) (c : UInt8) : List UInt8 := (lkd ps c).getD [c]
def rp (ps : Pairs) (l : List UInt8) : List UInt8 := l.flatMap (rp1 ps)
theorem rp_snoc (ps : Pairs) (l : List UInt8) (c : UInt8) : rp ps (l ++ [c]) = rp ps l ++ rp1 ps c := by unfold rp; rw [List.flatMap_append]; simp
def gn (ps : Pairs) (c : UInt8) : Int := ((rp1 ps c).length : Int) - 1
def sumA (ps : Pairs) (l : List UInt8) (ks : List UInt8) : Int := (ks.map (fun c => (l.count c : Int) * gn ps c)).sum
theorem sumA_nil (ps : Pairs) (ks : List UInt8) : sumA ps [] ks = 0 := by
 unfold sumA
 induction ks with
 | nil => rfl
 | cons k ks ih => rw [List.map_cons, List.sum_cons, ih]; simp
theorem sumA_cons (ps : Pairs) (c : UInt8) (l : List UInt8) : ∀ (ks : List UInt8), ks.Nodup → sumA ps (c :: l) ks = sumA ps l ks + if c ∈ ks then gn ps c else 0
 | [], _ => rfl
 | k :: ks, h => by
  rw [List.nodup_cons] at h
  have ih := sumA_cons ps c l ks h.2
  unfold sumA at ih ⊢
  rw [List.map_cons, List.sum_cons, List.map_cons, List.sum_cons, ih]
  by_cases hc : c = k
  ·subst hc
   rw [if_neg h.1, if_pos (by simp), List.count_cons_self]
   have : ((l.count c + 1 : Nat) : Int) * gn ps c = (l.count c : Int) * gn ps c + gn ps c := by rw [Int.natCast_add, Int.add_mul]; simp
   rw [this]; omega
  ·rw [List.count_cons_of_ne hc]
   by_cases hm : c ∈ ks
   ·rw [if_pos hm, if_pos (by simp [hm])]; omega
   ·rw [if_neg hm, if_neg (by simp [hm, hc])]; omega
theorem sumA_all {ps : Pairs} {ks : List UInt8} (hn : ks.Nodup) (hk : ∀ c, c ∈ ks ↔ (lkd ps c).isSome = true) : ∀ l : List UInt8, (l.length : Int) + sumA ps l ks = (rp ps l).length
 | [] => by rw [sumA_nil]; rfl
 | c :: l => by
  have ih := sumA_all hn hk l
  rw [sumA_cons _ _ _ _ hn]
  unfold rp at ih ⊢
  rw [List.flatMap_cons, List.length_append, List.length_cons]
  have hg : (if c ∈ ks then gn ps c else 0) = gn ps c := by
   by_cases h : c ∈ ks
   ·rw [if_pos h]
   ·rw [if_neg h]
    have : lkd ps c = none := by
     cases hl : lkd ps c with
     | none => rfl
     | some r => exact absurd ((hk c).2 (by rw [hl]; rfl)) h
    unfold gn rp1
    rw [this]; rfl
  rw [hg]
  unfold gn
  omega
theorem rp_same {ps : Pairs} {l : List UInt8} (h : ∀ c ∈ l, lkd ps c = none) : rp ps l = l := by
 unfold rp
 induction l with
 | nil => rfl
 | cons c l ih => rw [List.flatMap_cons, ih (fun d hd => h d (by simp [hd]))]; unfold rp1; rw [h c (by simp)]; rfl
theorem keys_iff (ps : Pairs) (c : UInt8) : c ∈ keysOf ps ↔ (lkd ps c).isSome = true := by
 unfold keysOf lkd
 rw [List.mem_reverse, Option.isSome_map, List.find?_isSome]
 simp only [List.mem_map]
 constructor
 ·rintro ⟨p, hp, rfl⟩; exact ⟨p, hp, by simp⟩
 ·rintro ⟨p, hp, h⟩; exact ⟨p, hp, by simpa using h⟩
theorem lkd_mem {ps : Pairs} {c : UInt8} {r : List UInt8} (h : lkd ps c = some r) : (c, r) ∈ ps := by
 unfold lkd at h
 rw [Option.map_eq_some_iff] at h
 obtain ⟨p, hp, rfl⟩ := h
 have h1 := List.mem_of_find?_eq_some hp
 have h2 := List.find?_some hp
 simp at h2
 rw [← h2]; exact h1
theorem keys_nodup {ps : Pairs} (G : ReplB.Good ps) : (keysOf ps).Nodup := by unfold keysOf List.Nodup; rw [List.pairwise_reverse]; exact List.Pairwise.imp (fun h => h.symm) G.once
theorem gn_bound {ps : Pairs} (G : ReplB.Good ps) (c : UInt8) : -1 ≤ gn ps c ∧ gn ps c ≤ 999 := by
 unfold gn rp1
 cases h : lkd ps c with
 | none => simp
 | some r =>
  have h1 : r.length ≤ 1000 := (G.long _ (lkd_mem h)).2
  simp
  omega
theorem rp1_bound {ps : Pairs} (G : ReplB.Good ps) (c : UInt8) : (rp1 ps c).length ≤ 1000 := by have h := (gn_bound G c).2; unfold gn at h; omega
theorem rp_bound {ps : Pairs} (G : ReplB.Good ps) : ∀ l : List UInt8, (rp ps l).length ≤ l.length * 1000
 | [] => by simp [rp]
 | c :: l => by
  have := rp_bound G l
  have := rp1_bound G c
  unfold rp at *
  rw [List.flatMap_cons, List.length_append, List.length_cons, Nat.add_mul]
  omega
theorem sumA_bound {ps : Pairs} (G : ReplB.Good ps) (l : List UInt8) (hl : l.length ≤ 1000) : ∀ ks : List UInt8, -1000 * (ks.length : Int) ≤ sumA ps l ks ∧ sumA ps l ks ≤ 1000000 * (ks.length : Int)
 | [] => by simp [sumA]
 | k :: ks => by
  have ih := sumA_bound G l hl ks
  have hb := gn_bound G k
  have hc := List.count_le_length (a := k) (l := l)
  unfold sumA at ih ⊢
  rw [List.map_cons, List.sum_cons, List.length_cons]
  have h1 : (l.count k : Int) * gn ps k ≤ 1000 * 1000 := by
   by_cases h0 : 0 ≤ gn ps k
   ·exact Int.mul_le_mul (by omega) (by omega) h0 (by decide)
   ·have : (l.count k : Int) * gn ps k ≤ 0 := Int.mul_nonpos_of_nonneg_of_nonpos (by omega) (by omega)
    omega
  have h2 : -1000 ≤ (l.count k : Int) * gn ps k := by
   by_cases h0 : 0 ≤ gn ps k
   ·have : 0 ≤ (l.count k : Int) * gn ps k := Int.mul_nonneg (by omega) h0
    omega
   ·have : gn ps k = -1 := by omega
    rw [this]; omega
  omega
def bufL (ys : List UInt8) (N : Nat) : List Value := Lib.byteCells ys ++ List.replicate (N - ys.length) (.int .u8 0)
theorem bufL_length {ys : List UInt8} {N : Nat} (h : ys.length ≤ N) : (bufL ys N).length = N := by unfold bufL; rw [List.length_append, Lib.byteCells_length, List.length_replicate]; omega
theorem bufL_splice {ys r : List UInt8} {N : Nat} (h : ys.length + r.length ≤ N) : splice (bufL ys N) ys.length (Lib.byteCells r) = bufL (ys ++ r) N := by
 unfold splice bufL
 rw [Lib.byteCells_length, List.take_left' (Lib.byteCells_length ys), List.drop_append, List.drop_eq_nil_of_le (by rw [Lib.byteCells_length]; omega), Lib.byteCells_length, List.drop_replicate, Lib.byteCells_append, List.append_assoc, List.nil_append, List.length_append]
 congr 3
 omega
theorem bufL_set {ys : List UInt8} {N : Nat} {c : UInt8} (h : ys.length < N) : (bufL ys N).set ys.length (.int .u8 (c.toNat : Int)) = bufL (ys ++ [c]) N := by
 have := bufL_splice (ys := ys) (r := [c]) (N := N) (by simp; omega)
 rw [← this]
 have hl := bufL_length (ys := ys) (N := N) (by omega)
 rw [List.set_eq_take_append_cons_drop, if_pos (by omega)]
 rfl
theorem bufL_full {ys : List UInt8} : bufL ys ys.length = Lib.byteCells ys := by unfold bufL; rw [Nat.sub_self]; simp
theorem bufL_zero (N : Nat) : (madeCells #[Value.int .u8 0] N) = (bufL [] N).toArray := by
 apply Array.ext'
 rw [toList_madeCells_one]
 unfold bufL
 simp [Lib.byteCells]

theorem tab_slot {T : Nat} {ps : Pairs} {ks : List UInt8} {F : Nat → Prop} {w : World} (h : Table T ps ks F w) (c : UInt8) :
  (lkd ps c = none → w.cell? ⟨T, c.toNat, none⟩ = some (.slice none 0 0)) ∧ ∀ r, lkd ps c = some r → ∃ g cap, w.cell? ⟨T, c.toNat, none⟩ = some (.slice (some ⟨g, 0, none⟩) r.length cap) ∧ g < w.heap.size ∧ ∀ j (h : j < r.length), w.cell? ⟨g, j, none⟩ = some (.int .u8 (r[j].toNat : Int)) := by
 obtain ⟨tb, tr, h1, h2, h3, h4, h5⟩ := h
 have hc := UInt8.toNat_lt c
 have hcell : w.cell? ⟨T, c.toNat, none⟩ = some (tb c.toNat) := by rw [cell_of_row _ _ _ _ _ _ h1, tab_get _ _ (by omega)]
 refine ⟨fun h => by rw [hcell, (h3 c).1 h], fun r hr => ?_⟩
 obtain ⟨g, cap, e1, e2, e3, e4, e5, e6⟩ := (h3 c).2 r hr
 exact ⟨g, cap, by rw [hcell, e1], e5, e6⟩
theorem tab_keys {T : Nat} {ps : Pairs} {ks : List UInt8} {F : Nat → Prop} {w : World} (h : Table T ps ks F w) (hk : 0 < ks.length) :
  ∃ g cap, w.cell? ⟨T, 256, none⟩ = some (.slice (some ⟨g, 0, none⟩) ks.length cap) ∧ ∀ j (h : j < ks.length), w.cell? ⟨g, j, none⟩ = some (.string ⟨#[ks[j]]⟩) := by
 obtain ⟨tb, tr, h1, h2, h3, h4, h5⟩ := h
 have hcell : w.cell? ⟨T, 256, none⟩ = some tr := by rw [cell_of_row _ _ _ _ _ _ h1, tab_last]
 have hc := fun gg hgg i s hi => h4.cells (g := gg) hgg i s hi
 rcases h4.2 with ⟨rfl, h0⟩ | ⟨g, cap, cur, rfl, _⟩
 ·omega
 ·refine ⟨g, cap, hcell, fun i hi => ?_⟩
  have := hc g rfl i (.string ⟨#[ks[i]]⟩) (by rw [List.getElem?_map, List.getElem?_eq_getElem hi]; rfl)
  rwa [Addr.add_lit, Nat.zero_add] at this
theorem drewN_below {B : Nat} {a w : World} (h : Below B a w) (n : Nat) : Below B a (w.drewN n) := ⟨h.os, h.tape, h.output, h.size, h.block⟩
theorem ret_s {a b : ByteArray} (h : a = b) : Ending.returned (.string a) = .returned (.string b) := by rw [h]
theorem rp_prefix (ps : Pairs) (l : List UInt8) (k : Nat) : (rp ps (l.take k)).length ≤ (rp ps l).length := by
 conv => rhs; rw [← List.take_append_drop k l]
 unfold rp
 rw [List.flatMap_append, List.length_append]
 omega
theorem bytes_one (l : List UInt8) : ∀ v ∈ Lib.byteCells l, v.oneCell' = true := by
 intro v hv
 obtain ⟨b, _, rfl⟩ := List.mem_map.1 hv
 rfl
def RoadPost (w : World) (ps : Pairs) (l : List UInt8) (a b : Value) (wx : World) : Prop :=
 a = .int .i64 ((rp ps l).length : Nat) ∧ (∃ bb : Bool, b = .bool bb ∧ (bb = false → rp ps l = l)) ∧ Below w.heap.size w wx
set_option maxRecDepth 100000 in
set_option maxHeartbeats 8000000 in
theorem bsr_calls (w : World) (ps : Pairs) (G : ReplB.Good ps) (T : Nat) (F : Nat → Prop) (hT : Table T ps (keysOf ps) F w) (hF : ∀ k, F k → k < w.heap.size) (s : ByteArray) (hs : s.size ≤ 1000) :
  Calls Tryz.prog 308 #[.pointer (some ⟨T, 0, none⟩), .string s] w fun e w' => e = .returned (.string ⟨(rp ps s.data.toList).toArray⟩) ∧ Below w.heap.size w w' := by
 have HT := Lib.hid (fun w' (hb : Below w.heap.size w w') => hT.keep (F' := F) (fun k hk => hb.block k (hF k hk)) (fun k hk => hk))
 have hkl : (keysOf ps).length = ps.length := by simp [keysOf]
 have hk0 : 0 < (keysOf ps).length := by have := G.two; omega
 have hk1 : (keysOf ps).length ≤ 100 := by have := G.few; omega
 have hsl := Lib.size_eq s
 obtain ⟨g3, c3, q1, q2⟩ := tab_keys hT hk0
 have hg3 := World.block_lt_of_cell? w _ (q2 0 hk0)
 have HQ2 := Lib.hid (fun w' (hb : Below w.heap.size w w') k (h : k < (keysOf ps).length) => cell_below hb (q2 k h) hg3)
 have HTl := Lib.hid (World.block_lt_of_cell? w _ q1)
 have HG := Lib.hid G
 have Hsl := Lib.hid hsl
 clear hT hF G hsl hkl q2 hg3
 obtain ⟨l, hl⟩ : ∃ l, l = s.data.toList := ⟨_, rfl⟩
 obtain ⟨K, hK⟩ : ∃ K, K = (keysOf ps).length := ⟨_, rfl⟩
 have Hl := Lib.hid hl; have HK := Lib.hid hK
 rw [← hK] at hk0 hk1 q1
 rw [← hl]
 clear hl hK
 go_enter Tryz.func308, Tryz.ntmps308
 go_upto_if 26 with fail
 go_cut [5, 6] (fun a b wx => RoadPost w ps l a b wx)
 case first =>
  by_cases hroad : K * 8 ≤ s.size
  ·have h26 : decide ((K : Int) * 8 ≤ (s.size : Int)) = true := decide_eq_true (by omega)
   go_wp2_with fail
   clear h26
   go_loopw [5, 6, 32] (fun a b i wr => ∃ (k : Nat) (z : Int) (bb : Bool), k ≤ K ∧ i = .int .i64 k ∧ a = .int .i64 z ∧ b = .bool bb ∧ Hid (z = (s.size : Int) + sumA ps l ((keysOf ps).take k)) ∧ Hid (bb = ((keysOf ps).take k).any (fun c => decide (0 < l.count c))) ∧ Below w.heap.size w wr) (fun _ _ i _ => K - (intOf i).toNat)
   case atStart => exact ⟨0, _, _, Nat.zero_le _, rfl, rfl, rfl, Lib.hid (by simp [sumA]), Lib.hid rfl, Below.refl _ _⟩
   case round =>
    obtain ⟨k, z, bb, hk, rfl, rfl, rfl, hz, hbb, hbw⟩ := hrel
    by_cases hlt : k < K
    ·have hkk : k < (keysOf ps).length := by rw [← HK.out]; exact hlt
     have e1 := HQ2.out wr hbw k hkk
     have hmem := (keys_iff ps (keysOf ps)[k]).1 (List.getElem_mem hkk)
     have htk : (keysOf ps).take (k + 1) = (keysOf ps).take k ++ [(keysOf ps)[k]] := List.take_succ_eq_append_getElem hkk
     generalize (keysOf ps)[k] = x at *
     obtain ⟨s1, hs1⟩ : ∃ s1 : ByteArray, s1 = ⟨#[x]⟩ := ⟨_, rfl⟩
     rw [← hs1] at e1
     have hix : ∀ W, (Instr.index 9 (.string s1) (.int .i64 0)).run Tryz.prog W = .ok (.int .u8 x.toNat) W := fun W => by rw [hs1]; rfl
     obtain ⟨r, hr⟩ := Option.isSome_iff_exists.1 hmem
     obtain ⟨g, cap, t1, -, -⟩ := (tab_slot (HT.out wr hbw) x).2 r hr
     have hx2 : (x.toNat : Int) < 256 := by have := UInt8.toNat_lt x; omega
     have hcl := List.count_le_length (a := x) (l := l)
     have hgb := gn_bound HG.out x
     have hgn : gn ps x = (r.length : Int) - 1 := by unfold gn rp1; rw [hr]; rfl
     have hcn : ∀ W, Calls Tryz.prog 310 #[.string s, .string s1] W fun e w' => e = .returned (.int .i64 (l.count x : Nat)) ∧ W = w' := fun W => by
      rw [hs1, Hl.out]
      exact (Tryz.strings_Count_one s x W).mono (fun e w' ⟨h1, h2⟩ => ⟨h1, h2.symm⟩)
     have hsa : sumA ps l ((keysOf ps).take (k + 1)) = sumA ps l ((keysOf ps).take k) + (l.count x : Int) * gn ps x := by
      rw [htk]; unfold sumA; rw [List.map_append, List.sum_append]; simp
     have hany : ((keysOf ps).take (k + 1)).any (fun c => decide (0 < l.count c)) = (((keysOf ps).take k).any (fun c => decide (0 < l.count c)) || decide (0 < l.count x)) := by rw [htk, List.any_append]; simp
     have hll : l.length = s.size := by rw [Hsl.out, Hl.out]
     have hb1 := sumA_bound HG.out l (by omega) ((keysOf ps).take k)
     have hb2 := sumA_bound HG.out l (by omega) ((keysOf ps).take (k + 1))
     have hl1 : ((keysOf ps).take k).length ≤ 100 := by rw [List.length_take]; omega
     have hl2 : ((keysOf ps).take (k + 1)).length ≤ 100 := by rw [List.length_take]; have := HK.out; omega
     generalize hcnt : l.count x = cn at *
     generalize hp1 : (cn : Int) * gn ps x = p1 at *
     generalize hg1 : gn ps x = g1 at *
     have hz2 : z + p1 = (s.size : Int) + sumA ps l ((keysOf ps).take (k + 1)) := by rw [hz.out, hsa]; omega
     have hzb : -200000 ≤ z ∧ z ≤ 200000000 := by rw [hz.out]; omega
     have hzb2 : -200000 ≤ z + p1 ∧ z + p1 ≤ 200000000 := by rw [hz2]; omega
     obtain ⟨z2, hz3⟩ : ∃ z2, z2 = z + p1 := ⟨_, rfl⟩
     rw [← hz3] at hz2 hzb2
     generalize hLL : r.length = LL at *
     have hw1 : IntKind.i64.wrap ((LL : Int) - 1) = g1 := by rw [IntWalk.i64_in _ (by omega)]; omega
     have hw2 : IntKind.i64.wrap ((cn : Int) * g1) = p1 := by rw [hp1]; exact IntWalk.i64_in _ (by omega)
     have hw3 : IntKind.i64.wrap (z + p1) = z2 := by rw [← hz3]; exact IntWalk.i64_in _ (by omega)
     have Hcn := Lib.hid hcn; have Hz2 := Lib.hid hz2; have Hany := Lib.hid hany; have Hbw := Lib.hid hbw; have Hp1 := Lib.hid hp1; have Hz3 := Lib.hid hz3
     clear hcn hz2 hany hbw hp1 hz3 hsa hb1 hb2 hl1 hl2 hgb hcl hgn hg1 hcnt hLL hs1 hmem htk hr hll hzb hzb2 hkk
     by_cases h0 : cn = 0
     ·subst h0
      clear hw1 hw2 hw3
      go_wp2_with (go_at_call 310; with_reducible refine (Hcn.out _).mono ?_; rintro e w5 ⟨rfl, rfl⟩)
      go_roundw
      case rel => exact ⟨k + 1, z, bb, by omega, by go_num, rfl, rfl, Lib.hid (by have := Hz2.out; have := Hz3.out; have := Hp1.out; simp at this; omega), Lib.hid (by rw [Hany.out, ← hbb.out]; simp), Hbw.out⟩
      case measure => simp [intOf]; omega
     ·have h1 : ((cn : Int) != 0) = true := by rw [bne_iff_ne]; omega
      go_wp2_with (go_at_call 310; with_reducible refine (Hcn.out _).mono ?_; rintro e w5 ⟨rfl, rfl⟩)
      go_quiet (fail)
      go_wp2_with fail
      go_roundw
      case rel => exact ⟨k + 1, z2, true, by omega, by go_num, rfl, rfl, Lib.hid Hz2.out, Lib.hid (by rw [Hany.out, decide_eq_true (show 0 < cn by omega)]; simp), drewN_below Hbw.out _⟩
      case measure => simp [intOf]; omega
    ·obtain rfl : k = K := by omega
     have Hbw := Lib.hid hbw
     clear hbw hlt
     go_wp2_with fail
     go_meet
     have hl1 : z = (rp ps l).length := by
      have h2 := sumA_all (keys_nodup HG.out) (keys_iff ps) l
      have := hz.out
      rw [HK.out, List.take_length] at this
      rw [this, ← h2, Hl.out, Hsl.out]
     refine ⟨by rw [hl1], ⟨bb, rfl, fun hf => rp_same (fun c hc => ?_)⟩, Hbw.out⟩
     have h3 := hbb.out
     rw [HK.out, List.take_length, hf] at h3
     cases hq : lkd ps c with
     | none => rfl
     | some r =>
      have h4 : c ∈ keysOf ps := (keys_iff ps c).2 (by rw [hq]; rfl)
      have h5 := List.any_eq_false.1 h3.symm c h4
      simp at h5
      exact absurd hc h5
  ·have h26 : decide ((K : Int) * 8 ≤ (s.size : Int)) = false := decide_eq_false (by omega)
   have hnn : ∀ (w : World) (a : Option Addr) (n c n' c' : Nat), (binOp .neq 208 (.slice a n c) (.slice none n' c')).run Tryz.prog w = .ok (.bool (!a.isNone)) w := fun w a n c n' c' => run_neq_slice_nil_any w _ _ a n c n' c' Tryz.underlying208
   go_wp2_with fail
   clear h26
   go_loop [5, 6, 10] (fun a b i => ∃ (k : Nat) (z : Int) (bb : Bool), k ≤ s.size ∧ i = .int .i64 k ∧ a = .int .i64 z ∧ b = .bool bb ∧ Hid (z = (s.size : Int) - k + (rp ps (l.take k)).length) ∧ Hid (bb = (l.take k).any (fun c => (lkd ps c).isSome))) (fun _ _ i => s.size - (intOf i).toNat)
   case atStart => exact ⟨0, _, _, Nat.zero_le _, rfl, rfl, rfl, Lib.hid (by simp [rp]), Lib.hid rfl⟩
   case round =>
    obtain ⟨k, z, bb, hk, rfl, rfl, rfl, hz, hbb⟩ := hrel
    have hll : l.length = s.size := by rw [Hsl.out, Hl.out]
    by_cases hlt : k < s.size
    ·have htk : l.take (k + 1) = l.take k ++ [s[k]] := by rw [List.take_succ_eq_append_getElem (by omega)]; simp [Hl.out]; rfl
     have hrs : rp ps (l.take (k + 1)) = rp ps (l.take k) ++ rp1 ps s[k] := by rw [htk, rp_snoc]
     have hany : (l.take (k + 1)).any (fun c => (lkd ps c).isSome) = ((l.take k).any (fun c => (lkd ps c).isSome) || (lkd ps s[k]).isSome) := by rw [htk, List.any_append]; simp
     have hx2 : (s[k].toNat : Int) < 256 := by have := UInt8.toNat_lt s[k]; omega
     have hb1 := rp_bound HG.out (l.take k)
     have hb2 := rp1_bound HG.out s[k]
     have hl1 : (l.take k).length ≤ 1000 := by rw [List.length_take]; omega
     have hl2 : (l.take k).length = k := by rw [List.length_take]; omega
     have hts := tab_slot (HT.out w (Below.refl _ _)) s[k]
     have Hrs := Lib.hid hrs; have Hany := Lib.hid hany
     clear hany hrs htk
     cases hq : lkd ps s[k] with
     | none =>
      have t1 := hts.1 hq
      have hr1 : (rp1 ps s[k]).length = 1 := by unfold rp1; rw [hq]; rfl
      have Hr1 := Lib.hid hr1; have Hq := Lib.hid hq
      clear hts hq hr1 hb1 hb2 hl1 hl2
      go_wp2_with fail
      go_round
      case rel => exact ⟨k + 1, z, bb, by omega, by go_num, rfl, rfl, Lib.hid (by rw [hz.out, Hrs.out, List.length_append, Hr1.out]; omega), Lib.hid (by rw [Hany.out, ← hbb.out, Hq.out]; simp)⟩
      case measure => simp [intOf]; omega
     | some r =>
      obtain ⟨g, cap, t1, -, -⟩ := hts.2 r hq
      have hr1 : (rp1 ps s[k]).length = r.length := by unfold rp1; rw [hq]; rfl
      have hzb : -1000 ≤ z ∧ z ≤ 1001000 := by rw [hz.out]; omega
      have hrl : r.length ≤ 1000 := by omega
      have hrl2 : 1 ≤ r.length := by have := (HG.out.long _ (lkd_mem hq)).1; simp at this; omega
      have Hr1 := Lib.hid hr1; have Hq := Lib.hid hq
      clear hts hq hr1 hb1 hb2 hl1 hl2
      go_wp2_with fail
      go_round
      case rel => exact ⟨k + 1, z + ((r.length : Int) - 1), true, by omega, by go_num, by go_num, rfl, Lib.hid (by rw [hz.out, Hrs.out, List.length_append, Hr1.out]; omega), Lib.hid (by rw [Hany.out, Hq.out]; simp)⟩
      case measure => simp [intOf]; omega
    ·obtain rfl : k = s.size := by omega
     clear hlt
     go_wp2_with fail
     go_meet
     have hz1 := hz.out
     have hb3 := hbb.out
     rw [List.take_of_length_le (by omega)] at hz1 hb3
     refine ⟨by rw [hz1]; congr 1; omega, ⟨bb, rfl, fun hf => rp_same (fun c hc => ?_)⟩, Below.refl _ _⟩
     rw [hf] at hb3
     have h5 := List.any_eq_false.1 hb3.symm c hc
     cases hq : lkd ps c with
     | none => rfl
     | some r => rw [hq] at h5; simp at h5
 case rest =>
  obtain ⟨rfl, ⟨bb, rfl, hbb⟩, hbw⟩ := hcut
  have hN : (rp ps l).length ≤ 1000000 := by
   have := rp_bound HG.out l
   have : l.length = s.size := by rw [Hsl.out, Hl.out]
   omega
  cases bb with
  | false =>
   have Hr := Lib.hid (hbb rfl); have Hbw := Lib.hid hbw
   clear hbb hbw
   go_wp2_with fail
   go_ret
   exact ⟨ret_s (by rw [Hr.out, Hl.out]), Hbw.out⟩
  | true =>
   clear hbb
   have Hbw := Lib.hid hbw
   clear hbw
   obtain ⟨N, hNN⟩ : ∃ N, N = (rp ps l).length := ⟨_, rfl⟩
   rw [← hNN] at hN
   rw [← hNN]
   have HN := Lib.hid hNN
   clear hNN
   have hmk := fun W => run_make_row' (P := Tryz.prog) 208 5 (.int .u8 0) 1 Tryz.underlying208 info_u8 rfl .i64 .i64 N (by omega) (by omega) W
   have hnn : ∀ (w : World) (a : Option Addr) (n c n' c' : Nat), (binOp .neq 208 (.slice a n c) (.slice none n' c')).run Tryz.prog w = .ok (.bool (!a.isNone)) w := fun w a n c n' c' => run_neq_slice_nil_any w _ _ a n c n' c' Tryz.underlying208
   go_wp2_with fail
   clear hmk
   rw [bufL_zero]
   obtain ⟨gb, hgb⟩ : ∃ gb, gb = wc.heap.size := ⟨_, rfl⟩
   obtain ⟨W0, hW0⟩ : ∃ W0, wc.alloc (.cells (bufL [] N).toArray 5) = W0 := ⟨_, rfl⟩
   have hbuf : W0.heap[gb]? = some (.cells (bufL [] N).toArray 5 (0, 0)) := by rw [← hW0]; exact heap_new hgb
   have hb0 : Below w.heap.size w W0 := by rw [← hW0]; exact Hbw.out.alloc Hbw.out.size _
   have hgw : w.heap.size ≤ gb := by rw [hgb]; exact Hbw.out.size
   rw [hW0, ← hgb]
   have Hbuf := Lib.hid hbuf; have Hb0 := Lib.hid hb0
   clear hbuf hb0 hW0 hgb
   go_loopw [13, 14] (fun a i wr => ∃ (k m : Nat), k ≤ s.size ∧ i = .int .i64 k ∧ a = .int .i64 m ∧ Hid (m = (rp ps (l.take k)).length) ∧ Hid (wr.heap[gb]? = some (.cells (bufL (rp ps (l.take k)) N).toArray 5 (0, 0))) ∧ Below w.heap.size w wr) (fun _ i _ => s.size - (intOf i).toNat)
   case atStart => exact ⟨0, 0, Nat.zero_le _, rfl, rfl, Lib.hid (by simp [rp]), Lib.hid (by simpa [rp] using Hbuf.out), Hb0.out⟩
   case round =>
    obtain ⟨k, m, hk, rfl, rfl, hm, hbuf, hbw⟩ := hrel
    have hll : l.length = s.size := by rw [Hsl.out, Hl.out]
    by_cases hlt : k < s.size
    ·have htk : l.take (k + 1) = l.take k ++ [s[k]] := by rw [List.take_succ_eq_append_getElem (by omega)]; simp [Hl.out]; rfl
     have hrs : rp ps (l.take (k + 1)) = rp ps (l.take k) ++ rp1 ps s[k] := by rw [htk, rp_snoc]
     have hx2 : (s[k].toNat : Int) < 256 := by have := UInt8.toNat_lt s[k]; omega
     have hts := tab_slot (HT.out wr hbw) s[k]
     have hpre := rp_prefix ps l (k + 1)
     rw [hrs, List.length_append, ← hm.out, ← HN.out] at hpre
     have Hrs := Lib.hid hrs
     clear hrs htk
     cases hq : lkd ps s[k] with
     | none =>
      have t1 := hts.1 hq
      have hr1 : rp1 ps s[k] = [s[k]] := by unfold rp1; rw [hq]; rfl
      rw [hr1] at hpre
      have hmN : m < N := by rw [List.length_singleton] at hpre; omega
      have Hr1 := Lib.hid hr1; have Hq := Lib.hid hq; have Hbw := Lib.hid hbw
      have b1 : wr.cell? ⟨gb, m, none⟩ = some (.int .u8 0) := by
       rw [cell_of_row _ _ _ _ _ _ hbuf.out, hm.out]
       unfold bufL
       simp [Lib.byteCells_length, List.getElem?_append_right, List.getElem?_replicate]
       rw [← hm.out]; omega
      have b2 := free_of hbuf.out m
      clear hts hq hr1 hpre hbw
      go_wp2_with fail
      go_roundw
      case rel =>
       refine ⟨k + 1, m + 1, by omega, by go_num, by go_num, Lib.hid (by rw [Hrs.out, Hr1.out, List.length_append, ← hm.out]; rfl), Lib.hid ?_, Hbw.out.setCell hgw _⟩
       rw [setCell_row hbuf.out, Hrs.out, Hr1.out, hm.out, List.setIfInBounds_toArray, bufL_set (by rw [← hm.out]; exact hmN)]
      case measure => simp [intOf]; omega
     | some r =>
      obtain ⟨g, cap, t1, hgl, t2⟩ := hts.2 r hq
      have hr1 : rp1 ps s[k] = r := by unfold rp1; rw [hq]; rfl
      rw [hr1] at hpre
      have hrl2 : 2 ≤ r.length := (HG.out.long _ (lkd_mem hq)).1
      have hmN : m < N := by omega
      have hsrc : ∀ (W : World), W.heap = wr.heap → ∀ j v, (Lib.byteCells r)[j]? = some v → W.cell? ((⟨g, 0, none⟩ : Addr).add j) = some v := fun W hW j v hj => by
       rw [Addr.add_lit, Nat.zero_add, cell_same (w := wr) (by rw [hW])]
       unfold Lib.byteCells at hj
       rw [List.getElem?_map] at hj
       obtain ⟨y, hy, rfl⟩ := Option.map_eq_some_iff.1 hj
       obtain ⟨hj2, rfl⟩ := List.getElem?_eq_some_iff.1 hy
       exact t2 j hj2
      have hn1 : (Lib.byteCells r).length = Nat.min r.length (N - m) := by rw [Lib.byteCells_length]; exact (Nat.min_eq_left (by omega)).symm
      have hn2 : m + (Lib.byteCells r).length ≤ (bufL (rp ps (l.take k)) N).length := by rw [Lib.byteCells_length, bufL_length (by rw [← hm.out]; omega)]; exact hpre
      have hw1 : IntKind.i64.wrap ((m : Int) + r.length) = ((m + r.length : Nat) : Int) := by rw [IntWalk.i64_in _ (by omega)]; omega
      have hmN2 : ¬ N = m := by omega
      have hmN3 : (m : Int) < N := by omega
      have hmN4 : (m : Int) ≤ N := by omega
      have hlb := Lib.byteCells_length r
      have Hr1 := Lib.hid hr1; have Hq := Lib.hid hq; have Hbw := Lib.hid hbw; have Hsrc := Lib.hid hsrc; have Hn1 := Lib.hid hn1; have Hn2 := Lib.hid hn2; have Hlb := Lib.hid hlb; have Hpre := Lib.hid hpre
      clear hts hq hr1 hbw t2 hsrc hn1 hn2 hlb hpre
      go_wp2_with fail
      go_region_law (refine step_copy_splice rfl (.tmp 105) (.tmp 111) 208 208 rfl 5 Tryz.underlying208 (by kernel_rfl) (some ⟨gb, m, none⟩) (some ⟨g, 0, none⟩) (N - m) (N - m) r.length cap (by simp [Act.eval, Act.put]) (by simp [Act.eval, Act.put]) gb m (bufL (rp ps (l.take k)) N) 5 hbuf.out (Lib.byteCells r) Hn1.out (fun _ => ⟨rfl, ⟨g, 0, none⟩, rfl, Hsrc.out _ rfl⟩) Hn2.out (bytes_one r) w.heap.size w (by first | exact Hbw.out | exact Hbw.out.drew) hgw ?_; intro w4 hg4 hb4; rw [Hlb.out])
      all_goals
       go_wp2_with fail
       go_roundw
       case rel =>
        refine ⟨k + 1, m + r.length, by omega, by go_num, by go_num, Lib.hid (by rw [Hrs.out, Hr1.out, List.length_append, ← hm.out]), Lib.hid ?_, hb4⟩
        have h5 := hg4.out
        rw [hm.out, bufL_splice (by rw [← hm.out]; exact Hpre.out)] at h5
        rw [h5, Hrs.out, Hr1.out]
       case measure => simp [intOf]; omega
    ·obtain rfl : k = s.size := by omega
     have hbf := hbuf.out
     have htl : l.take s.size = l := List.take_of_length_le (by omega)
     rw [htl, HN.out, bufL_full] at hbf
     have hcv := run_convert_bytes_back (P := Tryz.prog) wr 208 9 5 ⟨gb, 0, none⟩ N (rp ps l) Tryz.underlying208 Tryz.underlying5 Tryz.underlying9 (fun jj hjj => by
      rw [Addr.add_lit, cell_of_row _ _ _ _ _ _ hbf, Nat.zero_add]
      unfold Lib.byteCells
      simp [hjj])
     rw [← HN.out] at hcv
     have Hbw := Lib.hid hbw
     clear hbw hlt hbf htl hm hbuf
     go_wp2_with fail
     go_ret
     exact ⟨rfl, Hbw.out⟩
end Go.Proofs.YtmbhkkophkccbaaGreat.ReplR
end
