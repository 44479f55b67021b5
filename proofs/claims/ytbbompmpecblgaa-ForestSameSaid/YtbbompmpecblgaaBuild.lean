/- strings.Builder: WriteString, with the exact frame. -/
import Derived.Test.YtbbompmpecblgaaShelfB
import Derived.Test.YtbbompmpecblgaaMem
import Derived.Lib.AppendStr
import Derived.Test.YtbbompmpecblgaaWord
namespace Go.Proofs.Ytbbompmpecblgaa.Build
open Go Go.RowKit Go.Proofs.Ytbbompmpecblgaa.Seq Go.Proofs.Ytbbompmpecblgaa.Mem
set_option linter.unusedVariables false
set_option linter.unusedSimpArgs false

/-- A string behind a row of bytes: where the new row lies. -/
theorem append_string_at {P : Program} (w : World) (base : Nat) (t u ty e : TypeId) (i : TypeInfo) (ht : P.underlying t = some (.slice e)) (hu : P.underlying u = some .string) (hi : P.info? e = some i) (hz : i.zero = some (.int .u8 0))
    (hsize : i.size = 1) (hby : i.bytes = 1) (v : Value) (n : Nat) (xs : List Value) (hown : w.ownsRow base e 1 v n xs) (s : ByteArray)
    (h63 : n + s.size ≤ maxLen) (hbytes : n + s.size ≤ 140737488355328) (hbase : base ≤ w.heap.size) :
    ∃ v' w', (Builtin.append_ #[t, u] ty #[v, .string s]).run P w = .ok v' w' ∧ w'.ownsRow base e 1 v' (n + s.size) (xs ++ Lib.strCells s) ∧ w.grownBy w' v.ownBlock ∧
      (v'.ownBlock = v.ownBlock ∨ v'.ownBlock = some w.heap.size) := by
  obtain ⟨v', w', hr, h1, h2, h3⟩ := Lib.run_append_own_string (P := P) w base t u ty e i ht hu hi hz hsize hby v n xs hown s h63 hbytes hbase
  refine ⟨v', w', hr, h1, h2, ?_⟩
  have hsmall : n + s.size ≤ 9223372036854775807 := by simp only [maxLen] at h63; omega
  have hxl : xs.length = n := by simpa using hown.1
  rcases hown.2 with ⟨rfl, rfl⟩ | ⟨g, cap, cur, rfl, hbg, hg, hnc, hcm, hcs, htake⟩
  · by_cases hm : s.size = 0
    · left
      rw [h3.2 ⟨rfl, hm⟩]
    · right
      have hr2 := run_append_nil_string (P := P) w t u ty e i (.int .u8 0) ht hu hi hz s (by omega) (by omega) (by rw [hby]; omega)
      rw [hr] at hr2
      injection hr2 with hv _
      rw [hv]; rfl
  · by_cases hroom : n + s.size ≤ cap
    · left
      have hcs' : cur.size = cap := by simpa using hcs
      have hr2 := Lib.run_append_room_string (P := P) w t u ty e i ht hu hi hsize g n cap cur hg s hroom (by omega)
      rw [hr] at hr2
      injection hr2 with hv _
      rw [hv]; rfl
    · right
      have holds : ∀ j u, xs[j]? = some u → w.cell? ((⟨g, 0, none⟩ : Addr).add j) = some u := hown.cells (g := g) rfl
      have hr2 := Lib.run_append_grow_string (P := P) w t u ty e i (.int .u8 0) ht hu hi hz ⟨g, 0, none⟩ n cap xs (by rw [hsize]; simpa using hxl) holds s (by omega) (by omega) (by rw [hby]; exact growslice_fits (by omega) (by omega))
      rw [hr] at hr2
      injection hr2 with hv _
      rw [hv]; rfl
theorem pl_append_str {P : Program} {ops : Array Oper} {rest : List Oper} {o : Oper} {a : Act} {Q : Exit → Act → World → Prop} (w : World) (hgd : o.guard = none) (sl x : Operand) (t u : TypeId)
    (ho : o.op = .call { callee := .builtin .append, args := #[sl, x], argTypes := #[t, u] })
    (base : Nat) (e : TypeId) (ht : P.underlying t = some (.slice e)) (hu : P.underlying u = some .string) (hinfo : (P.info? e).map (fun i => (i.zero, i.size, i.bytes)) = some (some (.int .u8 0), 1, 1))
    (v : Value) (xs : List Value) (hs : a.eval sl = v) (s : ByteArray) (hx : a.eval x = .string s) (hown : w.ownsRow base e 1 v xs.length xs)
    (h63 : xs.length + s.size ≤ maxLen) (hbytes : xs.length + s.size ≤ 140737488355328) (hbase : base ≤ w.heap.size)
    (h : ∀ v' w', w'.ownsRow base e 1 v' (xs.length + s.size) (xs ++ Lib.strCells s) → w.grownBy w' v.ownBlock → (v'.ownBlock = v.ownBlock ∨ v'.ownBlock = some w.heap.size) → wpList P ops Q rest (a.put o.dst v') w') : wpList P ops Q (o :: rest) a w := by
  obtain ⟨i0, hi, hzz⟩ := Option.map_eq_some_iff.1 hinfo
  simp only [Prod.mk.injEq] at hzz
  obtain ⟨hz0, hz1, hz2⟩ := hzz
  obtain ⟨v', w', hrun, r1, r2, r3⟩ := append_string_at (P := P) w base t u o.type e i0 ht hu hi hz0 hz1 hz2 v xs.length xs hown s h63 hbytes hbase
  refine wpList_plain hgd fun K hK => ?_
  unfold Oper.wp execOp
  simp only [ho, resolve, invoke, builtin, Sem.run_bind, Sem.run_pure, Result.andThen_ok, List.map_toArray, List.map_cons, List.map_nil, hs, hx, hrun]
  exact hK _ _ (h v' w' r1 r2 r3)

/-- Block b is a builder that holds l; v is its buffer. -/
structure IsB (B b : Nat) (l : List UInt8) (v : Value) (w : World) : Prop where
  cells : w.heap[b]? = some (.cells #[.pointer none, v] 91 (0, 0)) ∨ w.heap[b]? = some (.cells #[.pointer (some ⟨b, 0, none⟩), v] 91 (0, 0))
  row : w.ownsRow B 5 1 v l.length (Lib.byteCells l)
  ne : v.ownBlock ≠ some b
  le : B ≤ b
theorem IsB.keep {B b : Nat} {l : List UInt8} {v : Value} {w w' : World} (h : IsB B b l v w) (hb : w'.heap[b]? = w.heap[b]?) (hr : ∀ g, v.ownBlock = some g → w'.heap[g]? = w.heap[g]?) : IsB B b l v w' :=
  ⟨h.cells.elim (fun x => .inl (hb.trans x)) (fun x => .inr (hb.trans x)), own_keep h.row hr, h.ne, h.le⟩
theorem IsB.lt {B b : Nat} {l : List UInt8} {v : Value} {w : World} (h : IsB B b l v w) : b < w.heap.size := h.cells.elim lt_heap lt_heap
theorem IsB.lib {B b : Nat} {l : List UInt8} {v : Value} {w : World} (h : IsB B b l v w) : Lib.IsBuilder 91 5 B b (Lib.byteCells l) w := by
  rcases h.cells with hc | hc
  · exact .inl ⟨h.le, v, hc, by rw [Lib.byteCells_length]; exact h.row, h.ne⟩
  · exact .inr ⟨h.le, v, hc, by rw [Lib.byteCells_length]; exact h.row, h.ne⟩
theorem own_form {w : World} {base : Nat} {e : TypeId} {sz : Nat} {v : Value} {n : Nat} {xs : List Value} (h : w.ownsRow base e sz v n xs) : ∃ A n c, v = .slice A n c := by
  rcases h.2 with ⟨rfl, _⟩ | ⟨g, cap, cur, rfl, _⟩
  · exact ⟨_, _, _, rfl⟩
  · exact ⟨_, _, _, rfl⟩
theorem info_u8 : (Try.prog.info? 5).map (fun i => (i.zero, i.size, i.bytes)) = some (some (.int .u8 0), 1, 1) := by kernel_rfl
theorem copyCheck_calls (B b : Nat) (l : List UInt8) (v : Value) (w : World) (h : IsB B b l v w) :
    Calls Try.prog 89 #[.pointer (some ⟨b, 0, none⟩)] w fun e w' => e = .returned (.tuple #[]) ∧ w'.heap[b]? = some (.cells #[.pointer (some ⟨b, 0, none⟩), v] 91 (0, 0)) ∧ Off (fun k => k = b) w w' := by
  rcases h.cells with hc | hc
  · refine (ShelfB.copyCheck_fresh b w (by rw [cell_of_row _ _ _ _ _ _ hc]; rfl) (by simp [World.shape?, hc]) (by simp [World.frozen?, hc])).mono ?_
    rintro e w' ⟨rfl, rfl⟩
    refine ⟨rfl, ?_, Off.setCell _ _ _ rfl⟩
    simp only [World.setCell, Array.getElem?_modify, hc]
    simp
  · refine (ShelfB.copyCheck_used b w (by rw [cell_of_row _ _ _ _ _ _ hc]; rfl)).mono ?_
    rintro e w' ⟨rfl, rfl⟩
    exact ⟨rfl, hc, Off.refl _ _⟩
theorem set1 {w : World} {b : Nat} {x u v : Value} {T : TypeId} (h : w.heap[b]? = some (.cells #[x, u] T (0, 0))) : (w.setCell ⟨b, 1, none⟩ v).heap[b]? = some (.cells #[x, v] T (0, 0)) := by
  simp only [World.setCell, Array.getElem?_modify, h]
  simp
theorem heap_set_other {w : World} {b g i : Nat} {v : Value} (h : g ≠ b) : (w.setCell ⟨b, i, none⟩ v).heap[g]? = w.heap[g]? := Below.heap_setCell _ _ _ _ h
def WPost (B b : Nat) (l : List UInt8) (s : ByteArray) (v : Value) (w : World) (e : Ending) (w' : World) : Prop :=
  e = .returned (.tuple #[.int .i64 s.size, .nilIface]) ∧ ∃ v', IsB B b (l ++ s.data.toList) v' w' ∧ Off (fun k => k = b ∨ v.ownBlock = some k) w w' ∧ (v'.ownBlock = v.ownBlock ∨ ∃ g, v'.ownBlock = some g ∧ w.heap.size ≤ g)
theorem WriteString_end {B b : Nat} {l : List UInt8} {s : ByteArray} {v v3 : Value} {w w2 w3 : World} (H : IsB B b l v w) (ho : Off (fun k => k = b) w w2) (hb : w3.heap[b]? = some (.cells #[.pointer (some ⟨b, 0, none⟩), v] 91 (0, 0)))
    (hown : w3.ownsRow B 5 1 v3 ((Lib.byteCells l).length + s.size) (Lib.byteCells l ++ Lib.strCells s)) (hg : w2.grownBy w3 v.ownBlock) (hat : v3.ownBlock = v.ownBlock ∨ v3.ownBlock = some w2.heap.size) :
    WPost B b l s v w (.returned (.tuple #[.int .i64 s.size, .nilIface])) (w3.setCell ⟨b, 1, none⟩ v3) := by
  have hne : v3.ownBlock ≠ some b := by
    rcases hat with h | h
    · rw [h]; exact H.ne
    · rw [h]
      intro e
      injection e with e
      have := H.lt
      have := ho.size
      omega
  refine ⟨rfl, v3, ⟨.inr (set1 hb), ?_, hne, H.le⟩, ?_, ?_⟩
  · have h1 := own_keep hown (w' := w3.setCell ⟨b, 1, none⟩ v3) (fun g hg => heap_set_other (fun e => hne (by rw [hg, e])))
    rw [Lib.strCells_eq, ← Lib.byteCells_append] at h1
    have h2 : (Lib.byteCells l).length + s.size = (l ++ s.data.toList).length := by rw [Lib.byteCells_length, List.length_append, Lib.size_eq]
    rwa [h2] at h1
  · refine ((ho.mono (fun k _ h => .inl h)).trans (Off.grown (Y := fun k => k = b ∨ v.ownBlock = some k) hg (fun r hr => .inr hr))).trans (Off.setCell _ _ _ (.inl rfl))
  · rcases hat with h | h
    · exact .inl h
    · exact .inr ⟨_, h, ho.size⟩
set_option maxRecDepth 100000 in
theorem WriteString_calls (B b : Nat) (l : List UInt8) (v : Value) (s : ByteArray) (w : World) (h : IsB B b l v w) (hl : l.length + s.size ≤ 140737488355328) :
    Calls Try.prog 71 #[.pointer (some ⟨b, 0, none⟩), .string s] w (WPost B b l s v w) := by
  have hcc := copyCheck_calls B b l v w h
  obtain ⟨A0, n0, c0, rfl⟩ := own_form h.row
  have Hcc := Lib.hid hcc; have H := Lib.hid h
  clear hcc h
  go_enter Try.func71, Try.ntmps71
  have Hle : Hid (B ≤ w.heap.size) := Lib.hid (Nat.le_trans H.out.le (Nat.le_of_lt H.out.lt))
  go_wp2_with (first
    | (go_at_call 89; with_reducible refine (Hcc.out).mono ?_; rintro e w2 ⟨rfl, hc2, ho2⟩; have k1 : w2.cell? ⟨b, 1, none⟩ = some (.slice A0 n0 c0) := (cell_of_row _ b 1 _ _ _ hc2).trans rfl; have k2 := free_of hc2 1; have hrow2 := own_keep H.out.row (w' := w2) (fun g hg => ho2.block g (H.out.row.lt g hg).2 (fun e => absurd (by rw [hg, e]) H.out.ne)); have Hrow2 := Lib.hid hrow2; have Hc2 := Lib.hid hc2; have Ho2 := Lib.hid ho2; clear hc2 ho2 hrow2)
    | (at_builtin; (refine pl_append_str w2 rfl _ _ 23 9 rfl B 5 Try.underlying23 Try.underlying9 info_u8 (.slice A0 n0 c0) (Lib.byteCells l) rfl s rfl (by rw [Lib.byteCells_length]; exact Hrow2.out) (by rw [Lib.byteCells_length]; simp only [maxLen]; omega) (by rw [Lib.byteCells_length]; exact hl) (Nat.le_trans Hle.out Ho2.out.size) ?_); rintro v3 w3 hown3 hgrow3 hat3; obtain ⟨A3, n3, c3, rfl⟩ := own_form hown3; have hb3 := (hgrow3.block b (lt_heap Hc2.out) (fun e => absurd e.symm H.out.ne)).trans Hc2.out; have k3 : w3.cell? ⟨b, 1, none⟩ = some (.slice A0 n0 c0) := (cell_of_row _ b 1 _ _ _ hb3).trans rfl; have k4 := free_of hb3 1; have Hb3 := Lib.hid hb3; have Hown3 := Lib.hid hown3; have Hgrow3 := Lib.hid hgrow3; have Hat3 := Lib.hid hat3; clear hb3 hown3 hgrow3 hat3))
  go_ret2
  exact WriteString_end H.out Ho2.out Hb3.out Hown3.out Hgrow3.out Hat3.out
end Go.Proofs.Ytbbompmpecblgaa.Build
