/- (*strings.Replacer).build. -/
import Derived.Test.YtbbompmpecblgaaRepl
import Derived.Lib.JoinLaws
import Derived.Deep.WholeRow
import Derived.WalkSpells
import Derived.Laws.IdiomStrings
namespace Go.Proofs.Ytbbompmpecblgaa.ReplB
open Go Go.RowKit Go.Proofs.Ytbbompmpecblgaa.Seq Go.Proofs.Ytbbompmpecblgaa.Mem Go.Proofs.Ytbbompmpecblgaa.Build Go.Proofs.Ytbbompmpecblgaa.Repl
set_option linter.unusedVariables false
set_option linter.unusedSimpArgs false

theorem build_table (A : Option Addr) (n c : Nat) (w : World) : (Instr.build 198 #[(1, .slice A n c)]).run Try.prog w = .ok (.agg (tabRow (fun _ => .slice none 0 0) (.slice A n c))) w := by kernel_rfl
theorem zero_table (w : World) : (zeroValue 198).run Try.prog w = .ok (.agg (tabRow (fun _ => .slice none 0 0) (.slice none 0 0))) w := by kernel_rfl
theorem zero_cells : Try.zeroCells198 = tabRow (fun _ => .slice none 0 0) (.slice none 0 0) := by kernel_rfl
theorem tab_size (tb : Nat → Value) (tr : Value) : (tabRow tb tr).size = 257 := by simp [tabRow]
theorem tab_get (tb : Nat → Value) (tr : Value) {c : Nat} (h : c < 256) : (tabRow tb tr)[c]? = some (tb c) := by simp [tabRow, List.getElem?_append_left, h]
theorem tab_last (tb : Nat → Value) (tr : Value) : (tabRow tb tr)[256]? = some tr := by simp [tabRow]
def updT (tb : Nat → Value) (i : Nat) (v : Value) : Nat → Value := fun j => if j = i then v else tb j
theorem tab_set (tb : Nat → Value) (tr v : Value) {c : Nat} (h : c < 256) : (tabRow tb tr).setIfInBounds c v = tabRow (updT tb c v) tr := by
  apply Array.ext_getElem?
  intro j
  rw [Array.getElem?_setIfInBounds]
  rcases Nat.lt_trichotomy j 256 with hj | hj | hj
  · rw [tab_get _ _ hj, tab_get _ _ hj, tab_size]
    unfold updT
    by_cases e : c = j
    · subst e; simp [show c < 257 by omega]
    · rw [if_neg e, if_neg (fun h => e h.symm)]
  · subst hj
    rw [if_neg (by omega), tab_last, tab_last]
  · rw [if_neg (by omega), Array.getElem?_eq_none (by rw [tab_size]; omega), Array.getElem?_eq_none (by rw [tab_size]; omega)]
theorem tab_set_last (tb : Nat → Value) (tr v : Value) : (tabRow tb tr).setIfInBounds 256 v = tabRow tb v := by
  apply Array.ext_getElem?
  intro j
  rw [Array.getElem?_setIfInBounds]
  rcases Nat.lt_trichotomy j 256 with hj | hj | hj
  · rw [tab_get _ _ hj, tab_get _ _ hj, if_neg (by omega)]
  · subst hj
    rw [if_pos rfl, tab_size, tab_last]; simp
  · rw [if_neg (by omega), Array.getElem?_eq_none (by rw [tab_size]; omega), Array.getElem?_eq_none (by rw [tab_size]; omega)]

theorem tab_one {tb : Nat → Value} {tr : Value} (h : ∀ i, (tb i).oneCell' = true) (h2 : tr.oneCell' = true) : (tabRow tb tr).all (·.oneCell') = true := by
  unfold tabRow
  rw [List.all_toArray]
  simp only [List.all_append, List.all_map, Bool.and_eq_true, List.all_eq_true]
  exact ⟨fun x _ => h x, by simp [h2]⟩
theorem store_table (W : World) (b : Nat) (hb : b = W.heap.size) (A : Option Addr) (n c : Nat) : (storeCells ⟨b, 0, none⟩ (Try.zeroCells198.toList.set 256 (.slice A n c)) 0).run Try.prog (W.alloc (.cells Try.zeroCells198 198)) =
    .ok () (W.alloc (.cells (tabRow (fun _ => .slice none 0 0) (.slice A n c)) 198)) := by
  subst hb
  rw [zero_cells, show (tabRow (fun _ => .slice none 0 0) (.slice none 0 0)).toList.set 256 (.slice A n c) = (tabRow (fun _ => .slice none 0 0) (.slice A n c)).toList by have := congrArg Array.toList (tab_set_last (fun _ => .slice none 0 0) (.slice none 0 0) (.slice A n c)); rwa [Array.toList_setIfInBounds] at this]
  exact run_storeCells_new (P := Try.prog) W _ _ _ (by rw [tab_size]; kernel_rfl) (by rw [tab_size, tab_size]) (tab_one (fun _ => rfl) rfl)

/-- What may be replaced so: bytes, each once, each by what is no byte. -/
structure Good (ps : Pairs) : Prop where
  two : 2 ≤ ps.length
  few : ps.length ≤ 100
  once : (ps.map (·.1)).Nodup
  long : ∀ p ∈ ps, 2 ≤ p.2.length ∧ p.2.length ≤ 1000
theorem table_new (w : World) (n : Nat) (hn : n ≤ maxLen) : Table (w.heap.size + 1) [] (keysOf []) (fun k => w.heap.size ≤ k ∧ k < ((w.alloc (.cells (madeCells #[.string ⟨#[]⟩] n) 9)).alloc (.cells (tabRow (fun _ => .slice none 0 0) (.slice (some ⟨w.heap.size, 0, none⟩) 0 n)) 198)).heap.size)
    ((w.alloc (.cells (madeCells #[.string ⟨#[]⟩] n) 9)).alloc (.cells (tabRow (fun _ => .slice none 0 0) (.slice (some ⟨w.heap.size, 0, none⟩) 0 n)) 198)) := by
  refine ⟨_, _, heap_new (by simp), ⟨by simp, by simp⟩, fun c => ⟨fun _ => rfl, fun r hr => by cases hr⟩, ?_, fun g hg => ?_⟩
  · have h := World.ownsRow_made (base := 0) (size := 1) (e := 9) w (madeCells #[.string ⟨#[]⟩] n) n (Nat.zero_le _) hn (by simp [madeCells])
    exact own_keep h (fun g hg => Below.heap_alloc _ _ _ (h.lt g hg).2)
  · simp [Value.ownBlock] at hg
    subst hg
    simp; omega
theorem lkd_none {ps : Pairs} {c : UInt8} (h : ∀ p ∈ ps, p.1 ≠ c) : lkd ps c = none := by
  unfold lkd
  rw [Option.map_eq_none_iff, List.find?_eq_none]
  intro p hp
  simpa using h p hp
theorem lkd_fresh {ps : Pairs} (h : (ps.map (·.1)).Nodup) {m : Nat} (hm : m < ps.length) : lkd (ps.drop (m + 1)) ps[m].1 = none := by
  refine lkd_none (fun p hp e => ?_)
  have h1 : (ps.drop m) = ps[m] :: ps.drop (m + 1) := List.drop_eq_getElem_cons hm
  have h2 : ((ps.drop m).map (·.1)).Nodup := by rw [List.map_drop]; exact h.sublist (List.drop_sublist _ _)
  rw [h1, List.map_cons, List.nodup_cons] at h2
  exact h2.1 (by rw [← e]; exact List.mem_map_of_mem hp)
theorem lkd_cons (c : UInt8) (r : List UInt8) (ps : Pairs) (d : UInt8) : lkd ((c, r) :: ps) d = if c = d then some r else lkd ps d := by
  unfold lkd
  rw [List.find?_cons]
  by_cases h : c = d
  · subst h; simp
  · rw [show (((c, r) : UInt8 × List UInt8).1 == d) = false by simpa using h, if_neg h]
theorem table_step {wr w7 : World} {base T : Nat} {ps : Pairs} {ks : List UInt8} {c : UInt8} {r : List UInt8} {s1 s2 : ByteArray} {v7 : Value} {n gc g7 cap7 : Nat} {fz : Nat × Nat} {tb : Nat → Value} {tr : Value}
    (h1 : wr.heap[T]? = some (.cells (tabRow tb tr) 198 (0, 0))) (h2 : base ≤ T)
    (h3 : ∀ d : UInt8, (lkd ps d = none → tb d.toNat = .slice none 0 0) ∧ ∀ r, lkd ps d = some r → ∃ g cap, tb d.toNat = .slice (some ⟨g, 0, none⟩) r.length cap ∧ (base ≤ g ∧ g < wr.heap.size) ∧ g ≠ T ∧ tr.ownBlock ≠ some g ∧ g < wr.heap.size ∧ ∀ j (h : j < r.length), wr.cell? ⟨g, j, none⟩ = some (.int .u8 (r[j].toNat : Int)))
    (h5 : ∀ g, tr.ownBlock = some g → (base ≤ g ∧ g < wr.heap.size) ∧ g ≠ T)
    (hs1 : s1 = ⟨#[c]⟩) (hs2 : s2 = ⟨r.toArray⟩) (hv : v7 = .slice (some ⟨g7, 0, none⟩) n cap7)
    (hg : (wr.alloc (.cells #[.int .u8 c.toNat] 5)).grownBy w7 tr.ownBlock) (hown : w7.ownsRow 0 9 1 v7 (ks.map (fun c => Value.string ⟨#[c]⟩) ++ [Value.string s1]).length (ks.map (fun c => Value.string ⟨#[c]⟩) ++ [Value.string s1]))
    (hat : tr.ownBlock = some g7 ∨ (wr.alloc (.cells #[.int .u8 c.toNat] 5)).heap.size ≤ g7) {w : World} (hw : base = w.heap.size) (hb : Below base w wr) :
    Table T ((c, r) :: ps) (ks ++ [c]) (fun k => base ≤ k ∧ k < ((((w7.setCell ⟨T, 256, none⟩ v7).setCell ⟨T, c.toNat, none⟩ (.slice (some ⟨w7.heap.size, 0, none⟩) s2.size gc)).alloc (.cells (bytesRow s2 gc) 5 fz)).drew).heap.size)
      ((((w7.setCell ⟨T, 256, none⟩ v7).setCell ⟨T, c.toNat, none⟩ (.slice (some ⟨w7.heap.size, 0, none⟩) s2.size gc)).alloc (.cells (bytesRow s2 gc) 5 fz)).drew) ∧
    Below base w ((((w7.setCell ⟨T, 256, none⟩ v7).setCell ⟨T, c.toNat, none⟩ (.slice (some ⟨w7.heap.size, 0, none⟩) s2.size gc)).alloc (.cells (bytesRow s2 gc) 5 fz)).drew) := by
  have hc := UInt8.toNat_lt c
  have hTw := lt_heap h1
  have hsz : (wr.alloc (.cells #[.int .u8 c.toNat] 5)).heap.size = wr.heap.size + 1 := by simp
  have hgs := hg.size
  have hT7 : w7.heap[T]? = some (.cells (tabRow tb tr) 198 (0, 0)) := (hg.block T (by omega) (fun e => (h5 T e.symm).2 rfl)).trans (heap_old h1)
  have hT8 := setCell_row (i := c.toNat) (v := .slice (some ⟨w7.heap.size, 0, none⟩) s2.size gc) (setCell_row (i := 256) (v := v7) hT7)
  rw [tab_set_last, tab_set _ _ _ (by omega)] at hT8
  have h8o : ∀ k, k ≠ T → ((w7.setCell ⟨T, 256, none⟩ v7).setCell ⟨T, c.toNat, none⟩ (.slice (some ⟨w7.heap.size, 0, none⟩) s2.size gc)).heap[k]? = w7.heap[k]? := fun k hk => (heap_set_other hk).trans (heap_set_other hk)
  have h8s : ((w7.setCell ⟨T, 256, none⟩ v7).setCell ⟨T, c.toNat, none⟩ (.slice (some ⟨w7.heap.size, 0, none⟩) s2.size gc)).heap.size = w7.heap.size := by simp [World.setCell]
  generalize hW8 : (w7.setCell ⟨T, 256, none⟩ v7).setCell ⟨T, c.toNat, none⟩ (.slice (some ⟨w7.heap.size, 0, none⟩) s2.size gc) = W8 at *
  have hob8 : Off (fun k => base ≤ k) w7 W8 := by rw [← hW8]; exact (Off.setCell _ _ _ h2).trans (Off.setCell _ _ _ h2)
  have hold : ∀ k, k < W8.heap.size → ((W8.alloc (.cells (bytesRow s2 gc) 5 fz)).drew).heap[k]? = W8.heap[k]? := fun k hk => Below.heap_alloc _ _ _ hk
  have hnew : ((W8.alloc (.cells (bytesRow s2 gc) 5 fz)).drew).heap[w7.heap.size]? = some (.cells (bytesRow s2 gc) 5 fz) := by rw [← h8s]; exact World.alloc_heap_new _ _
  have hsize : ((W8.alloc (.cells (bytesRow s2 gc) 5 fz)).drew).heap.size = w7.heap.size + 1 := by simp [h8s]
  have h7lt : g7 < w7.heap.size := (hown.lt g7 (by rw [hv]; rfl)).2
  refine ⟨⟨updT tb c.toNat (.slice (some ⟨w7.heap.size, 0, none⟩) s2.size gc), v7, (hold T (by omega)).trans hT8, ⟨h2, by rw [hsize]; omega⟩, fun d => ?_, ?_, ?_⟩, ?_⟩
  · rw [lkd_cons]
    by_cases hcd : c = d
    · subst hcd
      rw [if_pos rfl]
      refine ⟨(fun h => by cases h), fun r' hr => ?_⟩
      injection hr with hr
      subst hr
      refine ⟨w7.heap.size, gc, ?_, ⟨?_, ?_⟩, ?_, ?_, ?_, fun j hj => ?_⟩
      · rw [updT, if_pos rfl, hs2]; rfl
      · omega
      · rw [hsize]; omega
      · omega
      · rw [hv]; intro e; injection e with e; have e2 : g7 = w7.heap.size := e; omega
      · rw [hsize]; omega
      · rw [cell_of_row _ _ _ _ _ _ hnew, bytesRow_at _ _ _ (by rw [hs2]; simpa using hj)]
        simp [hs2]
    · rw [if_neg hcd]
      have hne : ¬ d.toNat = c.toNat := fun e => hcd (UInt8.toNat_inj.1 e.symm)
      rw [updT, if_neg hne]
      refine ⟨(h3 d).1, fun r' hr => ?_⟩
      obtain ⟨g, cap, e1, e2, e3, e4, e5, e6⟩ := (h3 d).2 r' hr
      have k1 : ((W8.alloc (.cells (bytesRow s2 gc) 5 fz)).drew).heap[g]? = wr.heap[g]? := (hold g (by omega)).trans ((h8o g e3).trans ((hg.block g (by omega) (fun e => e4 e.symm)).trans (Below.heap_alloc _ _ _ e5)))
      refine ⟨g, cap, e1, ⟨e2.1, by rw [hsize]; omega⟩, e3, ?_, by rw [hsize]; omega, fun j hj => (cell_same k1 j).trans (e6 j hj)⟩
      rw [hv]
      intro e
      injection e with e
      rcases hat with hat | hat
      · exact e4 (by rw [hat]; exact congrArg some e)
      · have : g7 = g := e
        omega
  · have h9 := own_keep hown (w' := (W8.alloc (.cells (bytesRow s2 gc) 5 fz)).drew) (fun g hg' => by
      rw [hv] at hg'
      have e : g7 = g := by injection hg'
      subst e
      refine (hold g7 (by omega)).trans (h8o g7 ?_)
      rcases hat with hat | hat
      · exact (h5 g7 hat).2
      · omega)
    rw [show (ks ++ [c]).map (fun c => Value.string ⟨#[c]⟩) = ks.map (fun c => Value.string ⟨#[c]⟩) ++ [Value.string s1] by rw [List.map_append, hs1]; rfl]
    rw [show (ks ++ [c]).length = (ks.map (fun c => Value.string ⟨#[c]⟩) ++ [Value.string s1]).length by simp]
    exact h9
  · intro g hg'
    rw [hv] at hg'
    have e : g7 = g := by injection hg'
    subst e
    rcases hat with hat | hat
    · have := h5 g7 hat
      exact ⟨⟨this.1.1, by rw [hsize]; omega⟩, this.2⟩
    · exact ⟨⟨by have := hb.size; omega, by rw [hsize]; omega⟩, by omega⟩
  · have b1 : Off (fun k => base ≤ k) wr (wr.alloc (.cells #[.int .u8 c.toNat] 5)) := Off.alloc _ _ _
    have b2 : Off (fun k => base ≤ k) (wr.alloc (.cells #[.int .u8 c.toNat] 5)) w7 := Off.grown hg (fun k hk => (h5 k hk).1.1)
    have b3 := ((b1.trans b2).trans hob8).trans ((Off.alloc _ W8 (.cells (bytesRow s2 gc) 5 fz)).trans (Off.drew _ _))
    exact hb.trans (b3.toBelow (by have := hb.size; omega) (fun k hk => hk))
def BuildPost (w : World) (ps : Pairs) (e : Ending) (w' : World) : Prop :=
  ∃ T F, e = .returned (.iface 199 (.pointer (some ⟨T, 0, none⟩))) ∧ Table T ps (keysOf ps) F w' ∧ (∀ k, F k → w.heap.size ≤ k ∧ k < w'.heap.size) ∧ Below w.heap.size w w'
set_option maxRecDepth 100000 in
set_option maxHeartbeats 4000000 in
theorem build_calls (w : World) (ps : Pairs) (G : Good ps) (rb : Nat) (so : Value) (d1 d2 : Value) (hr : w.heap[rb]? = some (.cells #[d1, d2, .int .u32 0, .nilIface, so] 133 (0, 0))) (hso : w.ownsRow 0 9 1 so (flat ps).length ((flat ps).map Value.string)) :
    Calls Try.prog 106 #[.pointer (some ⟨rb, 0, none⟩)] w (BuildPost w ps) := by
  have hl := flat_length ps
  have hg2 := G.two
  have hg3 := G.few
  obtain ⟨g, cp, rfl, hgw, hcell⟩ : ∃ g cp, so = .slice (some ⟨g, 0, none⟩) (2 * ps.length) cp ∧ g < w.heap.size ∧ ∀ i (h : i < (flat ps).length), w.cell? ⟨g, i, none⟩ = some (.string (flat ps)[i]) := by
    have hc := fun gg hgg i s hi => hso.cells (g := gg) hgg i s hi
    have hlt := hso.lt
    rcases hso.2 with ⟨rfl, h0⟩ | ⟨g, cap, cur, rfl, _⟩
    · omega
    · refine ⟨g, cap, by rw [hl], (hlt g rfl).2, fun i hi => ?_⟩
      have := hc g rfl i (.string (flat ps)[i]) (by rw [List.getElem?_map, List.getElem?_eq_getElem hi]; rfl)
      rwa [Addr.add_lit, Nat.zero_add] at this
  have c4 : w.cell? ⟨rb, 4, none⟩ = some (.slice (some ⟨g, 0, none⟩) (2 * ps.length) cp) := (cell_of_row _ _ _ _ _ _ hr).trans rfl
  have hev : ∀ w' : World, (∀ b o, b < w.heap.size → w'.cell? ⟨b, o, none⟩ = w.cell? ⟨b, o, none⟩) → ∀ k (h : k < ps.length), w'.cell? ⟨g, 2 * k, none⟩ = some (.string ⟨#[ps[k].1]⟩) := fun w' hw k h => by
    have h1 := flat_even h
    have h2 : 2 * k < (flat ps).length := by omega
    rw [hw _ _ hgw, hcell _ h2]
    rw [List.getElem?_eq_getElem h2] at h1
    injection h1 with h1
    rw [h1]
  have hod : ∀ w' : World, (∀ b o, b < w.heap.size → w'.cell? ⟨b, o, none⟩ = w.cell? ⟨b, o, none⟩) → ∀ k (h : k < ps.length), w'.cell? ⟨g, 2 * k + 1, none⟩ = some (.string ⟨ps[k].2.toArray⟩) := fun w' hw k h => by
    have h1 := flat_odd h
    have h2 : 2 * k + 1 < (flat ps).length := by omega
    rw [hw _ _ hgw, hcell _ h2]
    rw [List.getElem?_eq_getElem h2] at h1
    injection h1 with h1
    rw [h1]
  have Hev := Lib.hid hev; have Hod := Lib.hid hod; have HG := Lib.hid G
  obtain ⟨L, hL⟩ : ∃ L, L = 2 * ps.length := ⟨_, rfl⟩
  rw [← hL] at c4
  have hne2 : ((L : Int) == 2) = false := by rw [beq_eq_false_iff_ne]; omega
  have hL2 : 4 ≤ L := by omega
  have hL3 : L ≤ 200 := by omega
  have HL := Lib.hid hL
  clear hev hod hcell hso hl G hr hg2 hg3 hL
  go_enter Try.func106, Try.ntmps106
  go_wp2_with fail
  go_loop [4, 5] (fun a i => ∃ k j : Nat, Hid (j = 2 * k) ∧ j ≤ L ∧ i = .int .i64 j ∧ a = .bool (k == 0)) (fun _ i => L - (intOf i).toNat)
  case atStart => exact ⟨0, 0, Lib.hid rfl, by omega, rfl, rfl⟩
  case round =>
    obtain ⟨k, j, hj, hjL, rfl, rfl⟩ := hrel
    by_cases hlt : j < L
    · have hk : k < ps.length := by have := HL.out; have := hj.out; omega
      have e1 := Hev.out w (fun _ _ _ => rfl) k hk
      have e2 := Hod.out w (fun _ _ _ => rfl) k hk
      rw [← hj.out] at e1 e2
      have hp := HG.out.long ps[k] (List.getElem_mem _)
      have hjL2 : j + 2 ≤ L := by have := HL.out; have := hj.out; omega
      obtain ⟨s1, hs1⟩ : ∃ s1 : ByteArray, s1 = ⟨#[ps[k].1]⟩ := ⟨_, rfl⟩
      obtain ⟨s2, hs2⟩ : ∃ s2 : ByteArray, s2 = ⟨ps[k].2.toArray⟩ := ⟨_, rfl⟩
      rw [← hs1] at e1
      rw [← hs2] at e2
      have z1 : ((s1.size : Int) != 1) = false := by rw [hs1]; rfl
      have z2 : ((s2.size : Int) != 1) = true := by rw [bne_iff_ne, hs2]; have : (⟨ps[k].2.toArray⟩ : ByteArray).size = ps[k].2.length := rfl; omega
      clear hp hs1 hs2 hk
      go_wp2_with fail
      go_round
      case rel => exact ⟨k + 1, j + 2, Lib.hid (by have := hj.out; omega), hjL2, by go_num, rfl⟩
      case measure => simp [intOf]; omega
    · obtain rfl : j = L := by omega
      have hk0 : (k == 0) = false := by rw [beq_eq_false_iff_ne]; have := hj.out; omega
      have hdiv : (j : Int) / 2 = (ps.length : Nat) := by have := HL.out; omega
      have hN := HG.out.few
      have hmk := fun W => run_make_room (P := Try.prog) 22 9 (.string ⟨#[]⟩) 16 Try.underlying22 info_str rfl .i64 .i64 ps.length (by omega) (by omega) W
      have hst := store_table (w.alloc (.cells (madeCells #[.string ⟨#[]⟩] ps.length) 9)) (w.heap.size + 1) (by simp) (some ⟨w.heap.size, 0, none⟩) 0 ps.length
      go_wp2_with fail
      clear hst hmk hdiv hk0
      obtain ⟨W0, hW0⟩ : ∃ W0, (w.alloc (.cells (madeCells #[.string ⟨#[]⟩] ps.length) 9)).alloc (.cells (tabRow (fun _ => .slice none 0 0) (.slice (some ⟨w.heap.size, 0, none⟩) 0 ps.length)) 198) = W0 := ⟨_, rfl⟩
      have hT0 := table_new w ps.length (by have := HG.out.few; simp only [maxLen]; omega)
      have hb0 : Below w.heap.size w W0 := by rw [← hW0]; exact ((Below.refl _ _).alloc (Nat.le_refl _) _).alloc (by simp) _
      rw [hW0] at hT0
      have HT0 := Lib.hid hT0; have Hb0 := Lib.hid hb0; have HW0 := Lib.hid hW0
      have hlen := HL.out
      rw [hW0]
      clear hT0 hb0 hW0 hj
      go_loopw [12] (fun i wr => ∃ (m : Nat) (z : Int), Hid (z = 2 * m - 2) ∧ m ≤ ps.length ∧ i = .int .i64 z ∧ Table (w.heap.size + 1) (ps.drop m) (keysOf (ps.drop m)) (fun k => w.heap.size ≤ k ∧ k < wr.heap.size) wr ∧ Below w.heap.size w wr) (fun i _ => (intOf i + 2).toNat)
      case atStart => exact ⟨ps.length, _, Lib.hid (by omega), Nat.le_refl _, rfl, by rw [List.drop_length]; exact HT0.out, Hb0.out⟩
      case round =>
        obtain ⟨m, z, hz, hm, rfl, hTb, hbw⟩ := hrel
        clear hlen
        cases m with
        | zero =>
          obtain rfl : z = -2 := by have := hz.out; omega
          have HTb := Lib.hid hTb; have Hbw := Lib.hid hbw
          clear hTb hbw hz hm
          go_wp2_with fail
          go_ret
          exact ⟨_, _, rfl, HTb.out, fun k hk => hk, Hbw.out⟩
        | succ m =>
          obtain ⟨i, hi⟩ : ∃ i : Nat, i = 2 * m := ⟨_, rfl⟩
          obtain rfl : z = i := by have := hz.out; omega
          have hk : m < ps.length := by omega
          have hij : i + 2 ≤ j := by have := HL.out; omega
          have hold := fun b o (h : b < w.heap.size) => hbw.cell (p := ⟨b, o, none⟩) h
          have e1 := Hev.out wr hold m hk
          have e2 := Hod.out wr hold m hk
          rw [← hi] at e1 e2
          obtain ⟨s1, hs1⟩ : ∃ s1 : ByteArray, s1 = ⟨#[ps[m].1]⟩ := ⟨_, rfl⟩
          obtain ⟨s2, hs2⟩ : ∃ s2 : ByteArray, s2 = ⟨ps[m].2.toArray⟩ := ⟨_, rfl⟩
          rw [← hs1] at e1
          rw [← hs2] at e2
          obtain ⟨c, hc⟩ : ∃ c : UInt8, c = ps[m].1 := ⟨_, rfl⟩
          have hix : ∀ W, (Instr.index 9 (.string s1) (.int .i64 0)).run Try.prog W = .ok (.int .u8 c.toNat) W := fun W => by rw [hs1, hc]; rfl
          have hc2 : (c.toNat : Int) < 256 := by have := UInt8.toNat_lt c; omega
          have qT : ∀ (w : World) (a : Option Addr) (n c n' c' : Nat), (binOp .eql 23 (.slice a n c) (.slice none n' c')).run Try.prog w = .ok (.bool a.isNone) w := fun w a n c n' c' => Lib.run_eql_slice_nil w _ _ a n c n' c' Try.underlying23
          have hnone : lkd (ps.drop (m + 1)) c = none := by rw [hc]; exact lkd_fresh HG.out.once hk
          have hTb' := hTb
          obtain ⟨tb, tr, t1, t2, t3, t4, t5⟩ := hTb
          obtain ⟨A3, n3, c3, rfl⟩ := own_form t4
          have tc := (t3 c).1 hnone
          have k1 : wr.cell? ⟨w.heap.size + 1, c.toNat, none⟩ = some (.slice none 0 0) := by rw [cell_of_row _ _ _ _ _ _ t1, tab_get _ _ (by have := UInt8.toNat_lt c; omega), tc]
          have k2 : wr.cell? ⟨w.heap.size + 1, 256, none⟩ = some (.slice A3 n3 c3) := by rw [cell_of_row _ _ _ _ _ _ t1, tab_last]
          have hcv := run_convert_bytes_back (P := Try.prog) (wr.alloc (.cells #[.int .u8 c.toNat] 5)) 23 9 5 ⟨wr.heap.size, 0, none⟩ 1 [c] Try.underlying23 Try.underlying5 Try.underlying9 (fun jj hjj => by
            have : jj = 0 := by simp at hjj; omega
            subst this
            simp [Addr.add])
          simp only [List.length_cons, List.length_nil, Nat.zero_add] at hcv
          rw [show (⟨[c].toArray⟩ : ByteArray) = s1 by rw [hs1, hc]] at hcv
          have hcs := fun W => run_bytes_of_string (P := Try.prog) W 9 23 5 s2 Try.underlying9 Try.underlying23 Try.underlying5
          have t4' : (wr.alloc (.cells #[.int .u8 c.toNat] 5)).ownsRow 0 9 1 (.slice A3 n3 c3) ((keysOf (ps.drop (m + 1))).map (fun c => Value.string ⟨#[c]⟩)).length ((keysOf (ps.drop (m + 1))).map (fun c => Value.string ⟨#[c]⟩)) := by rw [List.length_map]; exact own_keep t4 (fun g hg => Below.heap_alloc _ _ _ (t4.lt g hg).2)
          have HT4 := Lib.hid t4'; clear t4'
          have hkl : (keysOf (ps.drop (m + 1))).length ≤ 100 := by unfold keysOf; simp; have := HG.out.few; omega
          have HTb := Lib.hid hTb'; have Hbw := Lib.hid hbw; have Hs1 := Lib.hid hs1; have Hs2 := Lib.hid hs2; have Hc := Lib.hid hc; have Hi := Lib.hid hi
          have T1 := Lib.hid t1; have T3 := Lib.hid t3; have T4 := Lib.hid t4; have T5 := Lib.hid t5
          have hc256 : ¬ c.toNat = 256 := by have := UInt8.toNat_lt c; omega
          have hc257 : ¬ 256 = c.toNat := by omega
          have Htc := Lib.hid tc
          clear hTb' hbw hs1 hs2 hc hi hz t1 t2 t3 t4 t5 tc hnone hold
          go_wp2_with (at_builtin; go_loud (refine pl_append (wr.alloc (.cells #[.int .u8 c.toNat] 5)) 0 rfl _ _ 22 9 (.string ⟨#[]⟩) 16 rfl Try.underlying22 info_str rfl (.slice A3 n3 c3) ((keysOf (ps.drop (m + 1))).map (fun c => Value.string ⟨#[c]⟩)) (.string s1) rfl (by simp [Act.eval]) rfl HT4.out (Nat.zero_le _) (by rw [List.length_map]; omega) (by rw [List.length_map]; simp only [maxLen]; omega) ?_; rintro v7 w7 hown7 hgrow7 ⟨g7, cap7, rfl, hat7⟩; have h7 := (hgrow7.block (w.heap.size + 1) (Nat.lt_of_lt_of_le (lt_heap T1.out) (by simp)) (fun e => (T5.out _ e.symm).2 rfl)).trans (heap_old T1.out); have k7 : w7.cell? ⟨w.heap.size + 1, 256, none⟩ = some (.slice A3 n3 c3) := (by rw [cell_of_row _ _ _ _ _ _ h7, tab_last]); have l7 := lt_heap h7; have k7f := free_of h7 256; have k8 : w7.cell? ⟨w.heap.size + 1, c.toNat, none⟩ = some (.slice none 0 0) := (by rw [cell_of_row _ _ _ _ _ _ h7, tab_get _ _ (by have := UInt8.toNat_lt c; omega), Htc.out]); have k8f := free_of h7 c.toNat; have H7 := Lib.hid h7; clear h7; have Hown7 := Lib.hid hown7; have Hgrow7 := Lib.hid hgrow7; have Hat7 := Lib.hid hat7; clear hown7 hgrow7 hat7))
          go_roundw
          case rel =>
            have hdr : ps.drop m = (c, ps[m].2) :: ps.drop (m + 1) := by rw [List.drop_eq_getElem_cons hk, Hc.out]
            have hks : keysOf (ps.drop m) = keysOf (ps.drop (m + 1)) ++ [c] := by rw [hdr]; unfold keysOf; rw [List.map_cons, List.reverse_cons]
            refine ⟨m, _, Lib.hid rfl, by omega, by have := Hi.out; go_num, ?_, ?_⟩
            · rw [hks, hdr]
              exact (table_step T1.out (by omega) T3.out T5.out (c := c) (s1 := s1) (by rw [Hs1.out, Hc.out]) Hs2.out rfl Hgrow7.out (by have h := Hown7.out; rw [List.length_map] at h; exact h) Hat7.out rfl Hbw.out).1
            · exact (table_step T1.out (by omega) T3.out T5.out (c := c) (s1 := s1) (by rw [Hs1.out, Hc.out]) Hs2.out rfl Hgrow7.out (by have h := Hown7.out; rw [List.length_map] at h; exact h) Hat7.out rfl Hbw.out).2
          case measure => simp [intOf]; omega
end Go.Proofs.Ytbbompmpecblgaa.ReplB
