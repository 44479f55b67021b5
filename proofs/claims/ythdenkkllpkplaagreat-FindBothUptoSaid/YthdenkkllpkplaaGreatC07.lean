/- Joined by a program: Build, Once, Repl, AOpMayB, AOpMayC. -/
import Derived.Lib.AppendStr
import Derived.Defers
import Derived.Laws.Pointers
import Derived.Laws.LoneSync
import Derived.RegionTactic
import Derived.RegionCalls
import Derived.ChangeAlike
import Derived.Tactics2
import Derived.Deep.QuietTactic
import Derived.BigQuiet
import Derived.Test.YthdenkkllpkplaaGreatC06
import Derived.Test.YthdenkkllpkplaaGreatC03
import Derived.Test.YthdenkkllpkplaaGreatC01
section
/- strings.Builder: WriteString, with the exact frame. -/
namespace Go.Proofs.YthdenkkllpkplaaGreat.Build
open Go Go.RowKit Go.Proofs.YthdenkkllpkplaaGreat.Seq Go.Proofs.YthdenkkllpkplaaGreat.Mem
set_option linter.unusedVariables false
set_option linter.unusedSimpArgs false

/-- A string behind a row of bytes: where the new row lies. -/
theorem append_string_at {P : Program} (w : World) (base : Nat) (t u ty e : TypeId) (i : TypeInfo) (ht : P.underlying t = some (.slice e)) (hu : P.underlying u = some .string) (hi : P.info? e = some i) (hz : i.zero = some (.int .u8 0))
    (hsize : i.size = 1) (hby : i.bytes = 1) (v : Value) (n : Nat) (xs : List Value) (hown : w.ownsRow base e 1 v n xs) (s : ByteArray)
    (h63 : n + s.size ≤ maxLen) (hbytes : n + s.size ≤ 140737488355328) (hbase : base ≤ w.heap.size) :
    ∃ v' w', (Builtin.append_ #[t, u] ty #[v, .string s]).run P w = .ok v' w' ∧ w'.ownsRow base e 1 v' (n + s.size) (xs ++ Lib.strCells s) ∧ w.grownBy w' v.ownBlock ∧
      (v'.ownBlock = v.ownBlock ∨ v'.ownBlock = some w.heap.size) := by
  obtain ⟨v', w', hr, h1, h2, h3⟩ := Lib.run_append_own_string (P := P) w base t u ty e i ht hu hi hz hsize hby v n xs hown s h63 hbytes hbase
  refine ⟨v', w', hr, h1, h2, ?_⟩
  have hsmall : n + s.size ≤ 9223372036854775807 := by simp only [maxLen] at h63; omega
  have hxl : xs.length = n := by simpa using hown.1
  rcases hown.2 with ⟨rfl, rfl⟩ | ⟨g, cap, cur, rfl, hbg, hg, hnc, hcm, hcs, htake⟩
  · by_cases hm : s.size = 0
    · left
      rw [h3.2 ⟨rfl, hm⟩]
    · right
      have hr2 := run_append_nil_string (P := P) w t u ty e i (.int .u8 0) ht hu hi hz s (by omega) (by omega) (by rw [hby]; omega)
      rw [hr] at hr2
      injection hr2 with hv _
      rw [hv]; rfl
  · by_cases hroom : n + s.size ≤ cap
    · left
      have hcs' : cur.size = cap := by simpa using hcs
      have hr2 := Lib.run_append_room_string (P := P) w t u ty e i ht hu hi hsize g n cap cur hg s hroom (by omega)
      rw [hr] at hr2
      injection hr2 with hv _
      rw [hv]; rfl
    · right
      have holds : ∀ j u, xs[j]? = some u → w.cell? ((⟨g, 0, none⟩ : Addr).add j) = some u := hown.cells (g := g) rfl
      have hr2 := Lib.run_append_grow_string (P := P) w t u ty e i (.int .u8 0) ht hu hi hz ⟨g, 0, none⟩ n cap xs (by rw [hsize]; simpa using hxl) holds s (by omega) (by omega) (by rw [hby]; exact growslice_fits (by omega) (by omega))
      rw [hr] at hr2
      injection hr2 with hv _
      rw [hv]; rfl
theorem pl_append_str {P : Program} {ops : Array Oper} {rest : List Oper} {o : Oper} {a : Act} {Q : Exit → Act → World → Prop} (w : World) (hgd : o.guard = none) (sl x : Operand) (t u : TypeId)
    (ho : o.op = .call { callee := .builtin .append, args := #[sl, x], argTypes := #[t, u] })
    (base : Nat) (e : TypeId) (ht : P.underlying t = some (.slice e)) (hu : P.underlying u = some .string) (hinfo : (P.info? e).map (fun i => (i.zero, i.size, i.bytes)) = some (some (.int .u8 0), 1, 1))
    (v : Value) (xs : List Value) (hs : a.eval sl = v) (s : ByteArray) (hx : a.eval x = .string s) (hown : w.ownsRow base e 1 v xs.length xs)
    (h63 : xs.length + s.size ≤ maxLen) (hbytes : xs.length + s.size ≤ 140737488355328) (hbase : base ≤ w.heap.size)
    (h : ∀ v' w', w'.ownsRow base e 1 v' (xs.length + s.size) (xs ++ Lib.strCells s) → w.grownBy w' v.ownBlock → (v'.ownBlock = v.ownBlock ∨ v'.ownBlock = some w.heap.size) → wpList P ops Q rest (a.put o.dst v') w') : wpList P ops Q (o :: rest) a w := by
  obtain ⟨i0, hi, hzz⟩ := Option.map_eq_some_iff.1 hinfo
  simp only [Prod.mk.injEq] at hzz
  obtain ⟨hz0, hz1, hz2⟩ := hzz
  obtain ⟨v', w', hrun, r1, r2, r3⟩ := append_string_at (P := P) w base t u o.type e i0 ht hu hi hz0 hz1 hz2 v xs.length xs hown s h63 hbytes hbase
  refine wpList_plain hgd fun K hK => ?_
  unfold Oper.wp execOp
  simp only [ho, resolve, invoke, builtin, Sem.run_bind, Sem.run_pure, Result.andThen_ok, List.map_toArray, List.map_cons, List.map_nil, hs, hx, hrun]
  exact hK _ _ (h v' w' r1 r2 r3)

/-- Block b is a builder that holds l; v is its buffer. -/
structure IsB (B b : Nat) (l : List UInt8) (v : Value) (w : World) : Prop where
  cells : w.heap[b]? = some (.cells #[.pointer none, v] 164 (0, 0)) ∨ w.heap[b]? = some (.cells #[.pointer (some ⟨b, 0, none⟩), v] 164 (0, 0))
  row : w.ownsRow B 5 1 v l.length (Lib.byteCells l)
  ne : v.ownBlock ≠ some b
  le : B ≤ b
theorem IsB.keep {B b : Nat} {l : List UInt8} {v : Value} {w w' : World} (h : IsB B b l v w) (hb : w'.heap[b]? = w.heap[b]?) (hr : ∀ g, v.ownBlock = some g → w'.heap[g]? = w.heap[g]?) : IsB B b l v w' :=
  ⟨h.cells.elim (fun x => .inl (hb.trans x)) (fun x => .inr (hb.trans x)), own_keep h.row hr, h.ne, h.le⟩
theorem IsB.lt {B b : Nat} {l : List UInt8} {v : Value} {w : World} (h : IsB B b l v w) : b < w.heap.size := h.cells.elim lt_heap lt_heap
theorem IsB.lib {B b : Nat} {l : List UInt8} {v : Value} {w : World} (h : IsB B b l v w) : Lib.IsBuilder 164 5 B b (Lib.byteCells l) w := by
  rcases h.cells with hc | hc
  · exact .inl ⟨h.le, v, hc, by rw [Lib.byteCells_length]; exact h.row, h.ne⟩
  · exact .inr ⟨h.le, v, hc, by rw [Lib.byteCells_length]; exact h.row, h.ne⟩
theorem own_form {w : World} {base : Nat} {e : TypeId} {sz : Nat} {v : Value} {n : Nat} {xs : List Value} (h : w.ownsRow base e sz v n xs) : ∃ A n c, v = .slice A n c := by
  rcases h.2 with ⟨rfl, _⟩ | ⟨g, cap, cur, rfl, _⟩
  · exact ⟨_, _, _, rfl⟩
  · exact ⟨_, _, _, rfl⟩
theorem info_u8 : (Tryz.prog.info? 5).map (fun i => (i.zero, i.size, i.bytes)) = some (some (.int .u8 0), 1, 1) := by kernel_rfl
theorem copyCheck_calls (B b : Nat) (l : List UInt8) (v : Value) (w : World) (h : IsB B b l v w) :
    Calls Tryz.prog 166 #[.pointer (some ⟨b, 0, none⟩)] w fun e w' => e = .returned (.tuple #[]) ∧ w'.heap[b]? = some (.cells #[.pointer (some ⟨b, 0, none⟩), v] 164 (0, 0)) ∧ Off (fun k => k = b) w w' := by
  rcases h.cells with hc | hc
  · refine (ShelfB.copyCheck_fresh b w (by rw [cell_of_row _ _ _ _ _ _ hc]; rfl) (by simp [World.shape?, hc]) (by simp [World.frozen?, hc])).mono ?_
    rintro e w' ⟨rfl, rfl⟩
    refine ⟨rfl, ?_, Off.setCell _ _ _ rfl⟩
    simp only [World.setCell, Array.getElem?_modify, hc]
    simp
  · refine (ShelfB.copyCheck_used b w (by rw [cell_of_row _ _ _ _ _ _ hc]; rfl)).mono ?_
    rintro e w' ⟨rfl, rfl⟩
    exact ⟨rfl, hc, Off.refl _ _⟩
theorem set1 {w : World} {b : Nat} {x u v : Value} {T : TypeId} (h : w.heap[b]? = some (.cells #[x, u] T (0, 0))) : (w.setCell ⟨b, 1, none⟩ v).heap[b]? = some (.cells #[x, v] T (0, 0)) := by
  simp only [World.setCell, Array.getElem?_modify, h]
  simp
theorem heap_set_other {w : World} {b g i : Nat} {v : Value} (h : g ≠ b) : (w.setCell ⟨b, i, none⟩ v).heap[g]? = w.heap[g]? := Below.heap_setCell _ _ _ _ h
def WPost (B b : Nat) (l : List UInt8) (s : ByteArray) (v : Value) (w : World) (e : Ending) (w' : World) : Prop :=
  e = .returned (.tuple #[.int .i64 s.size, .nilIface]) ∧ ∃ v', IsB B b (l ++ s.data.toList) v' w' ∧ Off (fun k => k = b ∨ v.ownBlock = some k) w w' ∧ (v'.ownBlock = v.ownBlock ∨ ∃ g, v'.ownBlock = some g ∧ w.heap.size ≤ g)
theorem WriteString_end {B b : Nat} {l : List UInt8} {s : ByteArray} {v v3 : Value} {w w2 w3 : World} (H : IsB B b l v w) (ho : Off (fun k => k = b) w w2) (hb : w3.heap[b]? = some (.cells #[.pointer (some ⟨b, 0, none⟩), v] 164 (0, 0)))
    (hown : w3.ownsRow B 5 1 v3 ((Lib.byteCells l).length + s.size) (Lib.byteCells l ++ Lib.strCells s)) (hg : w2.grownBy w3 v.ownBlock) (hat : v3.ownBlock = v.ownBlock ∨ v3.ownBlock = some w2.heap.size) :
    WPost B b l s v w (.returned (.tuple #[.int .i64 s.size, .nilIface])) (w3.setCell ⟨b, 1, none⟩ v3) := by
  have hne : v3.ownBlock ≠ some b := by
    rcases hat with h | h
    · rw [h]; exact H.ne
    · rw [h]
      intro e
      injection e with e
      have := H.lt
      have := ho.size
      omega
  refine ⟨rfl, v3, ⟨.inr (set1 hb), ?_, hne, H.le⟩, ?_, ?_⟩
  · have h1 := own_keep hown (w' := w3.setCell ⟨b, 1, none⟩ v3) (fun g hg => heap_set_other (fun e => hne (by rw [hg, e])))
    rw [Lib.strCells_eq, ← Lib.byteCells_append] at h1
    have h2 : (Lib.byteCells l).length + s.size = (l ++ s.data.toList).length := by rw [Lib.byteCells_length, List.length_append, Lib.size_eq]
    rwa [h2] at h1
  · refine ((ho.mono (fun k _ h => .inl h)).trans (Off.grown (Y := fun k => k = b ∨ v.ownBlock = some k) hg (fun r hr => .inr hr))).trans (Off.setCell _ _ _ (.inl rfl))
  · rcases hat with h | h
    · exact .inl h
    · exact .inr ⟨_, h, ho.size⟩
set_option maxRecDepth 100000 in
theorem WriteString_calls (B b : Nat) (l : List UInt8) (v : Value) (s : ByteArray) (w : World) (h : IsB B b l v w) (hl : l.length + s.size ≤ 140737488355328) :
    Calls Tryz.prog 97 #[.pointer (some ⟨b, 0, none⟩), .string s] w (WPost B b l s v w) := by
  have hcc := copyCheck_calls B b l v w h
  obtain ⟨A0, n0, c0, rfl⟩ := own_form h.row
  have Hcc := Lib.hid hcc; have H := Lib.hid h
  clear hcc h
  go_enter Tryz.func97, Tryz.ntmps97
  have Hle : Hid (B ≤ w.heap.size) := Lib.hid (Nat.le_trans H.out.le (Nat.le_of_lt H.out.lt))
  go_wp2_with (first
    | (go_at_call 166; with_reducible refine (Hcc.out).mono ?_; rintro e w2 ⟨rfl, hc2, ho2⟩; have k1 : w2.cell? ⟨b, 1, none⟩ = some (.slice A0 n0 c0) := (cell_of_row _ b 1 _ _ _ hc2).trans rfl; have k2 := free_of hc2 1; have hrow2 := own_keep H.out.row (w' := w2) (fun g hg => ho2.block g (H.out.row.lt g hg).2 (fun e => absurd (by rw [hg, e]) H.out.ne)); have Hrow2 := Lib.hid hrow2; have Hc2 := Lib.hid hc2; have Ho2 := Lib.hid ho2; clear hc2 ho2 hrow2)
    | (at_builtin; (refine pl_append_str w2 rfl _ _ 162 9 rfl B 5 Tryz.underlying162 Tryz.underlying9 info_u8 (.slice A0 n0 c0) (Lib.byteCells l) rfl s rfl (by rw [Lib.byteCells_length]; exact Hrow2.out) (by rw [Lib.byteCells_length]; simp only [maxLen]; omega) (by rw [Lib.byteCells_length]; exact hl) (Nat.le_trans Hle.out Ho2.out.size) ?_); rintro v3 w3 hown3 hgrow3 hat3; obtain ⟨A3, n3, c3, rfl⟩ := own_form hown3; have hb3 := (hgrow3.block b (lt_heap Hc2.out) (fun e => absurd e.symm H.out.ne)).trans Hc2.out; have k3 : w3.cell? ⟨b, 1, none⟩ = some (.slice A0 n0 c0) := (cell_of_row _ b 1 _ _ _ hb3).trans rfl; have k4 := free_of hb3 1; have Hb3 := Lib.hid hb3; have Hown3 := Lib.hid hown3; have Hgrow3 := Lib.hid hgrow3; have Hat3 := Lib.hid hat3; clear hb3 hown3 hgrow3 hat3))
  go_ret2
  exact WriteString_end H.out Ho2.out Hb3.out Hown3.out Hgrow3.out Hat3.out
end Go.Proofs.YthdenkkllpkplaaGreat.Build
end
section
/- sync.Once around (*strings.Replacer).buildOnce: one goroutine, the lock free. The lines are the worked text Lazy's, turned to this program. -/
namespace Go.Proofs.YthdenkkllpkplaaGreat.Once
open Go Go.RowKit Go.Proofs.YthdenkkllpkplaaGreat.Seq Go.Proofs.YthdenkkllpkplaaGreat.Mem
set_option linter.unusedVariables false
set_option linter.unusedSimpArgs false

theorem disable (w : World) : (callFunc 225 #[]).run Tryz.prog w = .ok (.value (.tuple #[])) w := run_call_mark0 Tryz.func225 (by kernel_rfl) (by kernel_rfl) (by kernel_rfl) .disable (by kernel_rfl) w
theorem enable (w : World) : (callFunc 227 #[]).run Tryz.prog w = .ok (.value (.tuple #[])) w := run_call_mark0 Tryz.func227 (by kernel_rfl) (by kernel_rfl) (by kernel_rfl) .enable (by kernel_rfl) w
theorem acquire (a : Addr) (w : World) : (callFunc 228 #[.pointer (some a)]).run Tryz.prog w = .ok (.value (.tuple #[])) w := run_call_marked Tryz.func228 (by kernel_rfl) (by kernel_rfl) (by kernel_rfl) .acquire (by kernel_rfl) a w
theorem releaseMerge (a : Addr) (w : World) : (callFunc 230 #[.pointer (some a)]).run Tryz.prog w = .ok (.value (.tuple #[])) w := run_call_marked Tryz.func230 (by kernel_rfl) (by kernel_rfl) (by kernel_rfl) .releaseMerge (by kernel_rfl) a w

theorem store_deferred (a : Addr) (x : Value) (u : FrameMode) (w : World) (hc : w.cell? a = some x) (hz : w.frozen? a = false) :
    CallsD Tryz.prog 206 #[.pointer (some a), .bool true] u w fun e u' w' => u' = u ∧ (e = .returned (.tuple #[]) ∧ w' = w.drew.setCell a (.int .u32 1)) := by
  have hc' : w.drew.cell? a = some x := by go_simp
  have hz' : w.drew.frozen? a = false := by go_simp
  have hst := run_call_store (P := Tryz.prog) Tryz.func218 (by kernel_rfl) (by kernel_rfl) (by kernel_rfl) (by kernel_rfl) (k := .u32) (y := 1) hc' hz'
  go_enter_d Tryz.func206, Tryz.ntmps206
  go_wp2
  go_region_calls
  all_goals (go_end0; exact ⟨rfl, rfl⟩)

set_option maxRecDepth 100000 in
theorem unlock_deferred (a : Addr) (u : FrameMode) (w : World) (hc : w.cell? a = some (.int .i32 1)) (hz : w.frozen? a = false) :
    CallsD Tryz.prog 205 #[.pointer (some a)] u w fun e u' w' => u' = u ∧ (e = .returned (.tuple #[]) ∧ w' = w.setCell a (.int .i32 0)) := by
  have hd := disable
  have he := enable
  have hr := releaseMerge
  have hadd := run_call_add (P := Tryz.prog) Tryz.func231 (by kernel_rfl) (by kernel_rfl) (by kernel_rfl) .i32 (by kernel_rfl) (y := -1) (s := 0) hc hz (by simp [go_sem]; rfl)
  first
    | have hcv := run_convert_to_unsafe (P := Tryz.prog) (src := 295) (dst := 248) Tryz.underlying295 Tryz.underlying248 (by kernel_rfl) hc
    | have hcv := run_convert_to_unsafe (P := Tryz.prog) (src := 222) (dst := 248) Tryz.underlying222 Tryz.underlying248 (by kernel_rfl) hc
  go_enter_d Tryz.func205, Tryz.ntmps205
  go_wp2
  go_end0
  go_wp2
  go_end0
  exact ⟨rfl, rfl⟩

set_option maxRecDepth 100000 in
theorem lock_free (a : Addr) (w : World) (hc : w.cell? a = some (.int .i32 0)) (hz : w.frozen? a = false) :
    Calls Tryz.prog 204 #[.pointer (some a)] w fun e w' => e = .returned (.tuple #[]) ∧ w' = w.setCell a (.int .i32 1) := by
  have hd := disable
  have he := enable
  have ha := acquire
  have hcas := run_call_cas_hit (P := Tryz.prog) Tryz.func226 (by kernel_rfl) (by kernel_rfl) (by kernel_rfl) .i32 (by kernel_rfl) (y := 1) hc hz
  have hc' : (w.setCell a (.int .i32 1)).cell? a = some (.int .i32 1) := World.cell?_setCell_same w a _ hc
  first
    | have hcv := run_convert_to_unsafe (P := Tryz.prog) (src := 295) (dst := 248) Tryz.underlying295 Tryz.underlying248 (by kernel_rfl) hc'
    | have hcv := run_convert_to_unsafe (P := Tryz.prog) (src := 222) (dst := 248) Tryz.underlying222 Tryz.underlying248 (by kernel_rfl) hc'
  go_enter Tryz.func204, Tryz.ntmps204
  go_wp2
  first | go_end0 | (simp only [Exit.inBlock, Exit.then]; refine bodyPost_ret (results_none rfl _ _ _) rfl ?_) | refine bodyPost_ret (results_none rfl _ _ _) rfl ?_
  go_wp2
  go_end0
  exact ⟨rfl, rfl⟩

set_option maxRecDepth 100000 in
set_option maxHeartbeats 1600000 in
/-- doSlow: what the function leaves, with 'done' stored and the lock let go. -/
theorem slow_calls (b : Nat) (R : World → Prop) (w : World)
    (h0 : w.cell? ⟨b, 0, none⟩ = some (.int .u32 0)) (h1 : w.cell? ⟨b, 1, none⟩ = some (.int .i32 0)) (f1 : w.frozen? ⟨b, 1, none⟩ = false)
    (hR : ∀ w1, R w1 → w1.cell? ⟨b, 0, none⟩ = some (.int .u32 0) ∧ w1.cell? ⟨b, 1, none⟩ = some (.int .i32 1) ∧ w1.frozen? ⟨b, 0, none⟩ = false ∧ w1.frozen? ⟨b, 1, none⟩ = false)
    (hF : Calls Tryz.prog 168 #[.pointer (some ⟨b, 0, none⟩)] (w.setCell ⟨b, 1, none⟩ (.int .i32 1)) fun e w1 => e = .returned (.tuple #[]) ∧ R w1) :
    Calls Tryz.prog 191 #[.pointer (some ⟨b, 0, none⟩), .func (.func 168) #[.pointer (some ⟨b, 0, none⟩)] #[]] w fun e w' => e = .returned (.tuple #[]) ∧ ∃ w1, R w1 ∧
      w' = (w1.drew.setCell ⟨b, 0, none⟩ (.int .u32 1)).setCell ⟨b, 1, none⟩ (.int .i32 0) := by
  have hl := run_call_load (P := Tryz.prog) Tryz.func203 (by kernel_rfl) (by kernel_rfl) (by kernel_rfl) .u32 (by kernel_rfl) (w := w.setCell ⟨b, 1, none⟩ (.int .i32 1)) (a := ⟨b, 0, none⟩) (x := 0) ((World.cell?_setCell_other _ ⟨b, 1, none⟩ ⟨b, 0, none⟩ _ (by simp)).trans h0)
  have hnot : ∀ (x : Bool) (w : World), (Op.unary .not (.bool x)).run Tryz.prog w = .ok (.bool (!x)) w := fun _ _ => rfl
  have HR := Lib.hid hR; have HF := Lib.hid hF
  clear hR hF
  go_enter_defers Tryz.func191, Tryz.ntmps191
  go_wp2_with (first | (go_at_call 204; refine (lock_free ⟨b, 1, none⟩ _ (by go_simp) (by go_simp)).mono ?_; rintro e w' ⟨rfl, rfl⟩) | (go_at_call 168; refine (HF.out).mono ?_; rintro e w1 ⟨rfl, hr1⟩; obtain ⟨g0, g1, k0, k1⟩ := HR.out _ hr1; have Hr1 := Lib.hid hr1; clear hr1) | go_in)
  refine leaves_cons (f := 206) (args := #[.pointer (some ⟨b, 0, none⟩), .bool true]) (by simp) (by simp [go_sem]) ?_
  refine (store_deferred ⟨b, 0, none⟩ (.int .u32 0) .returning _ g0 k0).mono ?_
  rintro e u' w'' ⟨rfl, rfl, rfl⟩
  refine leaves_cons (f := 205) (args := #[.pointer (some ⟨b, 1, none⟩)]) (by simp [settle]) (by simp [go_sem]) ?_
  refine (unlock_deferred ⟨b, 1, none⟩ _ _ ?_ ?_).mono ?_
  · refine (World.cell?_setCell_other _ ⟨b, 0, none⟩ ⟨b, 1, none⟩ _ (by simp)).trans ?_
    rw [World.cell?_drew]
    exact g1
  · simp [k1]
  rintro e u' w'' ⟨rfl, rfl, rfl⟩
  have hfin := Hr1.out
  simp [Leaves, settle, results, Tryz.results191]
  exact ⟨_, hfin, rfl⟩
end Go.Proofs.YthdenkkllpkplaaGreat.Once
end
section
/- strings.NewReplacer; what a replacer is in memory. -/
namespace Go.Proofs.YthdenkkllpkplaaGreat.Repl
open Go Go.RowKit Go.Proofs.YthdenkkllpkplaaGreat.Seq Go.Proofs.YthdenkkllpkplaaGreat.Mem Go.Proofs.YthdenkkllpkplaaGreat.Build
set_option linter.unusedVariables false
set_option linter.unusedSimpArgs false

/-! The plain side. -/
abbrev Pairs := List (UInt8 × List UInt8)
def lkd (ps : Pairs) (c : UInt8) : Option (List UInt8) := (ps.find? (fun p => p.1 == c)).map (·.2)
def flat (ps : Pairs) : List ByteArray := ps.flatMap (fun p => [⟨#[p.1]⟩, ⟨p.2.toArray⟩])
theorem flat_length : ∀ ps : Pairs, (flat ps).length = 2 * ps.length
  | [] => rfl
  | p :: ps => by
    have := flat_length ps
    unfold flat at this ⊢
    rw [List.flatMap_cons, List.length_append, this]
    simp; omega
theorem flat_cons (p : UInt8 × List UInt8) (ps : Pairs) : flat (p :: ps) = ⟨#[p.1]⟩ :: ⟨p.2.toArray⟩ :: flat ps := by unfold flat; rw [List.flatMap_cons]; rfl
theorem flat_even : ∀ {ps : Pairs} {k : Nat} (h : k < ps.length), (flat ps)[2 * k]? = some ⟨#[ps[k].1]⟩
  | p :: ps, 0, h => by rw [flat_cons]; rfl
  | p :: ps, k + 1, h => by rw [flat_cons, show 2 * (k + 1) = 2 * k + 1 + 1 by omega, List.getElem?_cons_succ, List.getElem?_cons_succ, flat_even (by simpa using h)]; rfl
theorem flat_odd : ∀ {ps : Pairs} {k : Nat} (h : k < ps.length), (flat ps)[2 * k + 1]? = some ⟨ps[k].2.toArray⟩
  | p :: ps, 0, h => by rw [flat_cons]; rfl
  | p :: ps, k + 1, h => by rw [flat_cons, show 2 * (k + 1) + 1 = 2 * k + 1 + 1 + 1 by omega, List.getElem?_cons_succ, List.getElem?_cons_succ, flat_odd (by simpa using h)]; rfl

/-! The memory. -/
def onceRow (d : Int) (r so : Value) : Array Value := #[.int .u32 d, .int .i32 0, .int .u32 0, r, so]
def tabRow (tb : Nat → Value) (tr : Value) : Array Value := ((List.range 256).map tb ++ [tr]).toArray
/-- Block T is the table of ps; all that belongs to it lies in F. -/
def Table (T : Nat) (ps : Pairs) (ks : List UInt8) (F : Nat → Prop) (w : World) : Prop :=
  ∃ (tb : Nat → Value) (tr : Value), w.heap[T]? = some (.cells (tabRow tb tr) 269 (0, 0)) ∧ F T ∧
    (∀ c : UInt8, (lkd ps c = none → tb c.toNat = .slice none 0 0) ∧ ∀ r, lkd ps c = some r → ∃ g cap, tb c.toNat = .slice (some ⟨g, 0, none⟩) r.length cap ∧ F g ∧ g ≠ T ∧ tr.ownBlock ≠ some g ∧ g < w.heap.size ∧ ∀ j (h : j < r.length), w.cell? ⟨g, j, none⟩ = some (.int .u8 (r[j].toNat : Int))) ∧
    (w.ownsRow 0 9 1 tr ks.length (ks.map (fun c => Value.string ⟨#[c]⟩)) ∧ ∀ g, tr.ownBlock = some g → F g ∧ g ≠ T)
def keysOf (ps : Pairs) : List UInt8 := (ps.map (·.1)).reverse
/-- Block rb is a replacer of ps; all that belongs to it lies in F. -/
def IsRep (rb : Nat) (ps : Pairs) (F : Nat → Prop) (w : World) : Prop :=
  (∃ so, w.heap[rb]? = some (.cells (onceRow 0 .nilIface so) 230 (0, 0)) ∧ w.ownsRow 0 9 1 so (flat ps).length ((flat ps).map Value.string) ∧ ∀ g, so.ownBlock = some g → F g) ∨
  (∃ T, w.heap[rb]? = some (.cells (onceRow 1 (.iface 270 (.pointer (some ⟨T, 0, none⟩))) (.slice none 0 0)) 230 (0, 0)) ∧ Table T ps (keysOf ps) F w)
theorem cell_same {w w' : World} {g : Nat} (h : w'.heap[g]? = w.heap[g]?) (j : Nat) : w'.cell? ⟨g, j, none⟩ = w.cell? ⟨g, j, none⟩ := by simp [World.cell?, h]
theorem Table.keep {T : Nat} {ps : Pairs} {ks : List UInt8} {F F' : Nat → Prop} {w w' : World} (h : Table T ps ks F w) (hF : ∀ k, F k → w'.heap[k]? = w.heap[k]?) (hF' : ∀ k, F k → F' k) : Table T ps ks F' w' := by
  obtain ⟨tb, tr, h1, h2, h3, h4, h5⟩ := h
  refine ⟨tb, tr, (hF T h2).trans h1, hF' T h2, fun c => ⟨(h3 c).1, fun r hr => ?_⟩, own_keep h4 (fun g hg => hF g (h5 g hg).1), fun g hg => ⟨hF' g (h5 g hg).1, (h5 g hg).2⟩⟩
  obtain ⟨g, cap, hg, hfg, hgT, hgr, hlt, ho⟩ := (h3 c).2 r hr
  have e := hF g hfg
  refine ⟨g, cap, hg, hF' g hfg, hgT, hgr, ?_, fun j hj => (cell_same e j).trans (ho j hj)⟩
  have h6 : w'.heap[g]? = some w.heap[g] := e.trans (Array.getElem?_eq_getElem hlt)
  exact lt_heap h6
theorem IsRep.keep {rb : Nat} {ps : Pairs} {F F' : Nat → Prop} {w w' : World} (h : IsRep rb ps F w) (hr : w'.heap[rb]? = w.heap[rb]?) (hF : ∀ k, F k → w'.heap[k]? = w.heap[k]?) (hF' : ∀ k, F k → F' k) : IsRep rb ps F' w' := by
  rcases h with ⟨so, h1, h2, h3⟩ | ⟨T, h1, h2⟩
  · exact .inl ⟨so, hr.trans h1, own_keep h2 (fun g hg => hF g (h3 g hg)), fun g hg => hF' g (h3 g hg)⟩
  · exact .inr ⟨T, hr.trans h1, h2.keep hF hF'⟩
theorem info_str : (Tryz.prog.info? 9).map (fun i => (i.zero, i.size, i.bytes)) = some (some (.string ⟨#[]⟩), 1, 16) := by kernel_rfl
theorem str_one (l : List ByteArray) : ∀ u ∈ l.map Value.string, u.oneCell' = true := by
  intro u hu
  obtain ⟨s, _, rfl⟩ := List.mem_map.1 hu
  rfl
theorem own_base {w : World} {base base' : Nat} {e : TypeId} {sz : Nat} {v : Value} {n : Nat} {xs : List Value} (h : w.ownsRow base e sz v n xs) (hb : base' ≤ base) : w.ownsRow base' e sz v n xs := by
  refine ⟨h.1, ?_⟩
  rcases h.2 with h2 | ⟨g, cap, cur, h2, h3, h4⟩
  · exact .inl h2
  · exact .inr ⟨g, cap, cur, h2, Nat.le_trans hb h3, h4⟩
theorem setCell_row {w : World} {b i : Nat} {cs : Array Value} {t : TypeId} {fz : Nat × Nat} {v : Value} (h : w.heap[b]? = some (.cells cs t fz)) : (w.setCell ⟨b, i, none⟩ v).heap[b]? = some (.cells (cs.setIfInBounds i v) t fz) := by
  simp only [World.setCell, Array.getElem?_modify, h]
  simp
def NewPost (w : World) (ps : Pairs) (e : Ending) (w' : World) : Prop :=
  ∃ rb F, e = .returned (.pointer (some ⟨rb, 0, none⟩)) ∧ w.heap.size ≤ rb ∧ IsRep rb ps F w' ∧ (∀ k, F k → w.heap.size ≤ k ∧ k < w'.heap.size ∧ k ≠ rb) ∧ Below w.heap.size w w'
set_option maxRecDepth 100000 in
theorem NewReplacer_calls (w : World) (ps : Pairs) (hn : 0 < ps.length) (hn2 : ps.length ≤ 100) (b : Nat) (hb : w.heap[b]? = some (.cells ((flat ps).map Value.string).toArray 9 (0, 0))) (n : Nat) (hnn : n = (flat ps).length) :
    Calls Tryz.prog 94 #[.slice (some ⟨b, 0, none⟩) n n] w (NewPost w ps) := by
  have hl := flat_length ps
  obtain ⟨i0, hi, hz0, hz1, hz2⟩ := info_parts info_str
  have hcell : ∀ j u, ((flat ps).map Value.string)[j]? = some u → w.cell? ((⟨b, 0, none⟩ : Addr).add j) = some u := fun j u hj => by
    rw [Addr.add_lit, cell_of_row _ _ _ _ _ _ hb]
    simpa using hj
  have hm2 : (n : Int) % 2 = 0 := by omega
  have hlen : ((flat ps).map Value.string).length = n * 1 := by rw [List.length_map]; omega
  have hn3 : n ≤ 200 := by omega
  have Hcell := Lib.hid hcell; have Hlen := Lib.hid hlen; have Hnn := Lib.hid hnn
  clear hcell hlen hl hb hnn
  go_enter Tryz.func94, Tryz.ntmps94
  go_wp2_with (at_builtin; go_loud (refine wpList_append_own_at w rfl _ _ 214 rfl w.heap.size 9 i0 (.string ⟨#[]⟩) 1 16 Tryz.underlying214 hi hz0 hz1 hz2 rfl (by decide) (.slice none 0 0) 0 [] rfl (World.ownsRow_nil _ _ _ _) ⟨b, 0, none⟩ n n ((flat ps).map Value.string) rfl Hlen.out Hcell.out (str_one _) (by simp only [maxLen]; omega) (by omega) (Nat.le_refl _) ?_); rintro v1 w1 hown hgrow hnil hat; obtain ⟨A1, n1, c1, rfl⟩ := own_form hown; have Hown := Lib.hid hown; have Hgrow := Lib.hid hgrow; have Hat := Lib.hid hat; clear hown hgrow hnil hat)
  go_ret
  refine ⟨w1.heap.size, fun k => (Value.slice A1 n1 c1).ownBlock = some k, rfl, Hgrow.out.size, .inl ⟨.slice A1 n1 c1, heap_new rfl, ?_, fun g hg => hg⟩, fun k hk => ?_, ?_⟩
  · have h1 := own_keep Hown.out (w' := w1.alloc (.cells (onceRow 0 .nilIface (.slice A1 n1 c1)) 230)) (fun g hg => Below.heap_alloc _ _ _ (Hown.out.lt g hg).2)
    rw [List.nil_append, Nat.zero_add] at h1
    rw [← Hnn.out]
    exact own_base h1 (Nat.zero_le _)
  · have := Hown.out.lt k hk
    exact ⟨this.1, by simp; omega, by omega⟩
  · exact ((Off.grown (Y := fun b => w.heap.size ≤ b) Hgrow.out (fun r hr => by cases hr)).toBelow (Nat.le_refl _) (fun b hb => hb)).alloc Hgrow.out.size _
end Go.Proofs.YthdenkkllpkplaaGreat.Repl
end
section
/- op.May itself. -/
namespace Go.Proofs.YthdenkkllpkplaaGreat.OpMay
open Go Go.RowKit Go.Proofs.YthdenkkllpkplaaGreat.Seq Go.Proofs.YthdenkkllpkplaaGreat.WS Go.Proofs.YthdenkkllpkplaaGreat.FS Go.Proofs.YthdenkkllpkplaaGreat.Mem Go.Proofs.YthdenkkllpkplaaGreat.Rd
set_option linter.unusedVariables false
set_option linter.unusedSimpArgs false

theorem num0_calls (W : World) (b i : Nat) (z : Int) (h : W.cell? ⟨b, i, none⟩ = some (.int .i64 z)) (hf : W.frozen? ⟨b, i, none⟩ = false) : Calls Tryz.prog 57 #[.pointer (some ⟨b, i, none⟩)] W fun e w' => e = .returned (.tuple #[]) ∧ W.setCell ⟨b, i, none⟩ (.int .i64 0) = w' := by
  go_enter Tryz.func57, Tryz.ntmps57
  go_wp2_with fail
  first | go_end0 | refine bodyPost_ret (results_none rfl _ _ _) rfl ?_
  exact ⟨rfl, rfl⟩
theorem str0_calls (W : World) (b i : Nat) (z : ByteArray) (h : W.cell? ⟨b, i, none⟩ = some (.string z)) (hf : W.frozen? ⟨b, i, none⟩ = false) : Calls Tryz.prog 58 #[.pointer (some ⟨b, i, none⟩)] W fun e w' => e = .returned (.tuple #[]) ∧ W.setCell ⟨b, i, none⟩ (.string ⟨#[]⟩) = w' := by
  go_enter Tryz.func58, Tryz.ntmps58
  go_wp2_with fail
  first | go_end0 | refine bodyPost_ret (results_none rfl _ _ _) rfl ?_
  exact ⟨rfl, rfl⟩
/-- As each leaves it: the numbers below j. -/
def zN (n : Int) (o : Opn) (j : Nat) : Opn := { o with id := if 0 < n ∧ 0 < j then 0 else o.id, to := if 1 < n ∧ 1 < j then 0 else o.to, at_ := if 2 < n ∧ 2 < j then 0 else o.at_ }
def zO (n : Int) (bn bt : Bool) (o : Opn) : Opn := { zN n o 3 with name := if bn then ⟨#[]⟩ else o.name, text := if bt then ⟨#[]⟩ else o.text }
def EachPost (b : Nat) (o' : Opn) (w : World) (e : Ending) (w' : World) : Prop := e = .returned (.tuple #[]) ∧ w'.heap[b]? = some (.cells (opRow o') 24 (0, 0)) ∧ Off (fun x => x = b) w w'
theorem op_cells {W : World} {b : Nat} {o : Opn} (h : W.heap[b]? = some (.cells (opRow o) 24 (0, 0))) : W.cell? ⟨b, 0, none⟩ = some (.int .i64 o.kind) ∧ W.cell? ⟨b, 1, none⟩ = some (.int .i64 o.id) ∧ W.cell? ⟨b, 2, none⟩ = some (.int .i64 o.to) ∧ W.cell? ⟨b, 3, none⟩ = some (.int .i64 o.at_) ∧ W.cell? ⟨b, 4, none⟩ = some (.string o.name) ∧ W.cell? ⟨b, 5, none⟩ = some (.string o.text) ∧ (∀ j, W.frozen? ⟨b, j, none⟩ = false) :=
  ⟨(cell_of_row _ _ _ _ _ _ h).trans rfl, (cell_of_row _ _ _ _ _ _ h).trans rfl, (cell_of_row _ _ _ _ _ _ h).trans rfl, (cell_of_row _ _ _ _ _ _ h).trans rfl, (cell_of_row _ _ _ _ _ _ h).trans rfl, (cell_of_row _ _ _ _ _ _ h).trans rfl, free_of h⟩
theorem ix0 (b : Nat) (w : World) : (Instr.index 188 (.agg #[.pointer (some ⟨b, 1, none⟩), .pointer (some ⟨b, 2, none⟩), .pointer (some ⟨b, 3, none⟩)]) (.int .i64 0)).run Tryz.prog w = .ok (.pointer (some ⟨b, 1, none⟩)) w := by kernel_rfl
theorem ix1 (b : Nat) (w : World) : (Instr.index 188 (.agg #[.pointer (some ⟨b, 1, none⟩), .pointer (some ⟨b, 2, none⟩), .pointer (some ⟨b, 3, none⟩)]) (.int .i64 1)).run Tryz.prog w = .ok (.pointer (some ⟨b, 2, none⟩)) w := by kernel_rfl
theorem ix2 (b : Nat) (w : World) : (Instr.index 188 (.agg #[.pointer (some ⟨b, 1, none⟩), .pointer (some ⟨b, 2, none⟩), .pointer (some ⟨b, 3, none⟩)]) (.int .i64 2)).run Tryz.prog w = .ok (.pointer (some ⟨b, 3, none⟩)) w := by kernel_rfl
set_option maxRecDepth 100000 in
set_option maxHeartbeats 4000000 in
theorem each_calls (b : Nat) (o : Opn) (s : ByteArray) (n : Int) (bn bt : Bool) (w : World) (h : w.heap[b]? = some (.cells (opRow o) 24 (0, 0))) :
    Calls Tryz.prog 56 #[.pointer (some ⟨b, 0, none⟩), .agg #[.string s, .int .i64 n, .bool bn, .bool bt], .func (.func 57) #[] #[], .func (.func 58) #[] #[]] w (EachPost b (zO n bn bt o) w) := by
  have H := Lib.hid h
  have hbl := lt_heap h
  have hbne : b ≠ w.heap.size := by omega
  clear h
  go_enter Tryz.func56, Tryz.ntmps56
  go_wp2_with fail
  go_quiet (fail)
  obtain ⟨w1, hw1⟩ : ∃ w1, (w.alloc (.cells #[.string s, .int .i64 n, .bool bn, .bool bt] 119)).drewN nq = w1 := ⟨_, rfl⟩
  have hx1 : w1.heap[w.heap.size]? = some (.cells #[.string s, .int .i64 n, .bool bn, .bool bt] 119 (0, 0)) := by rw [← hw1]; exact World.alloc_heap_new w _
  have hb1 : w1.heap[b]? = some (.cells (opRow (zN n o 0)) 24 (0, 0)) := by
    rw [← hw1]
    refine (Below.heap_alloc _ _ _ hbl).trans (H.out.trans ?_)
    simp [zN]
  have hoff1 : Off (fun x => x = b) w w1 := by rw [← hw1]; exact (Off.alloc _ _ _).trans (Off.drewN _ _ _)
  rw [hw1]
  have Hx1 := Lib.hid hx1; have Hb1 := Lib.hid hb1; have Hoff1 := Lib.hid hoff1
  clear hw1 hx1 hb1 hoff1 H
  go_wp2_with fail
  go_loopw [20] (fun i wr => ∃ (j : Nat) (z : Int), Hid (z = j) ∧ j ≤ 3 ∧ i = .int .i64 z ∧ wr.heap[b]? = some (.cells (opRow (zN n o j)) 24 (0, 0)) ∧ wr.heap[w.heap.size]? = some (.cells #[.string s, .int .i64 n, .bool bn, .bool bt] 119 (0, 0)) ∧ Off (fun x => x = b) w wr) (fun i _ => 3 - (intOf i).toNat)
  case atStart => exact ⟨0, 0, Lib.hid rfl, by omega, rfl, Hb1.out, Hx1.out, Hoff1.out⟩
  case round =>
    obtain ⟨j, z, hz, hj3, rfl, hrow, hx, hoff⟩ := hrel
    have hzj := hz.out
    clear hz
    obtain ⟨c0, c1, c2, c3, c4, c5, cf⟩ := op_cells hrow
    have x1 : wr.cell? ⟨w.heap.size, 1, none⟩ = some (.int .i64 n) := (cell_of_row _ _ _ _ _ _ hx).trans rfl
    have x2 : wr.cell? ⟨w.heap.size, 2, none⟩ = some (.bool bn) := (cell_of_row _ _ _ _ _ _ hx).trans rfl
    have x3 : wr.cell? ⟨w.heap.size, 3, none⟩ = some (.bool bt) := (cell_of_row _ _ _ _ _ _ hx).trans rfl
    have Hrow := Lib.hid hrow; have Hx := Lib.hid hx; have Hoff := Lib.hid hoff
    clear hrow hx hoff Hb1 Hx1 Hoff1
    have num := num0_calls
    have Num := Lib.hid num
    clear num
    have i0 := ix0 b; have i1 := ix1 b; have i2 := ix2 b
    rcases (show (z = 0 ∧ j = 0) ∨ (z = 1 ∧ j = 1) ∨ (z = 2 ∧ j = 2) ∨ (z = 3 ∧ j = 3) by omega) with ⟨rfl, rfl⟩ | ⟨rfl, rfl⟩ | ⟨rfl, rfl⟩ | ⟨rfl, rfl⟩
    all_goals clear hzj
    · by_cases hn : (0 : Int) < n
      · go_wp2_with (go_at_call 57; ((with_reducible refine (Num.out _ _ _ _ c1 (cf 1)).mono ?_); rintro e w5 ⟨rfl, rfl⟩))
        go_roundw
        case rel => exact ⟨1, 1, Lib.hid rfl, by omega, rfl, (Repl.setCell_row Hrow.out).trans (by simp [zN, hn]), (Below.heap_setCell _ _ _ _ (fun e => hbne e.symm)).trans Hx.out, Hoff.out.trans (Off.setCell _ _ _ rfl)⟩
        case measure => simp [intOf]; try omega
      · go_wp2_with fail
        go_roundw
        case rel => exact ⟨1, 1, Lib.hid rfl, by omega, rfl, Hrow.out.trans (by simp [zN, hn]), Hx.out, Hoff.out⟩
        case measure => simp [intOf]; try omega
    · by_cases hn : (1 : Int) < n
      · go_wp2_with (go_at_call 57; ((with_reducible refine (Num.out _ _ _ _ c2 (cf 2)).mono ?_); rintro e w5 ⟨rfl, rfl⟩))
        go_roundw
        case rel => exact ⟨2, 2, Lib.hid rfl, by omega, rfl, (Repl.setCell_row Hrow.out).trans (by simp [zN, hn]), (Below.heap_setCell _ _ _ _ (fun e => hbne e.symm)).trans Hx.out, Hoff.out.trans (Off.setCell _ _ _ rfl)⟩
        case measure => simp [intOf]; try omega
      · go_wp2_with fail
        go_roundw
        case rel => exact ⟨2, 2, Lib.hid rfl, by omega, rfl, Hrow.out.trans (by simp [zN, hn]), Hx.out, Hoff.out⟩
        case measure => simp [intOf]; try omega
    · by_cases hn : (2 : Int) < n
      · go_wp2_with (go_at_call 57; ((with_reducible refine (Num.out _ _ _ _ c3 (cf 3)).mono ?_); rintro e w5 ⟨rfl, rfl⟩))
        go_roundw
        case rel => exact ⟨3, 3, Lib.hid rfl, by omega, rfl, (Repl.setCell_row Hrow.out).trans (by simp [zN, hn]), (Below.heap_setCell _ _ _ _ (fun e => hbne e.symm)).trans Hx.out, Hoff.out.trans (Off.setCell _ _ _ rfl)⟩
        case measure => simp [intOf]; try omega
      · go_wp2_with fail
        go_roundw
        case rel => exact ⟨3, 3, Lib.hid rfl, by omega, rfl, Hrow.out.trans (by simp [zN, hn]), Hx.out, Hoff.out⟩
        case measure => simp [intOf]; try omega
    · have Str := Lib.hid str0_calls
      have hzn : (zN n o 3).name = o.name := rfl
      have hzt : (zN n o 3).text = o.text := rfl
      rw [hzn] at c4
      rw [hzt] at c5
      clear hzn hzt
      have c5' : ∀ u, (wr.setCell ⟨b, 4, none⟩ u).cell? ⟨b, 5, none⟩ = some (.string o.text) := fun u => (World.cell?_setCell_other _ _ _ _ (fun e => by cases e)).trans c5
      have cf' : ∀ u, (wr.setCell ⟨b, 4, none⟩ u).frozen? ⟨b, 5, none⟩ = false := fun u => (World.frozen?_setCell _ _ _ _).trans (cf 5)
      have C5 := Lib.hid c5'; have Cf := Lib.hid cf'
      clear c5' cf'
      cases bn <;> cases bt
      all_goals
        go_wp2_with (first
          | (go_at_call 58; ((with_reducible refine (Str.out _ b 4 _ c4 (cf 4)).mono ?_); rintro e w5 ⟨rfl, rfl⟩))
          | (go_at_call 58; ((with_reducible refine (Str.out _ b 5 _ c5 (cf 5)).mono ?_); rintro e w6 ⟨rfl, rfl⟩))
          | (go_at_call 58; ((with_reducible refine (Str.out _ b 5 _ (C5.out _) (Cf.out _)).mono ?_); rintro e w6 ⟨rfl, rfl⟩)))
        first | go_end0 | refine bodyPost_ret (results_none rfl _ _ _) rfl ?_
        refine ⟨rfl, ?_, ?_⟩
        · first
            | exact (Repl.setCell_row (Repl.setCell_row Hrow.out)).trans (by simp [zO, show (zN n o 3).name = o.name from rfl, show (zN n o 3).text = o.text from rfl])
            | exact (Repl.setCell_row Hrow.out).trans (by simp [zO, show (zN n o 3).name = o.name from rfl, show (zN n o 3).text = o.text from rfl])
            | exact Hrow.out.trans (by simp [zO, show (zN n o 3).name = o.name from rfl, show (zN n o 3).text = o.text from rfl])
        · first
            | exact (Hoff.out.trans (Off.setCell _ _ _ rfl)).trans (Off.setCell _ _ _ rfl)
            | exact Hoff.out.trans (Off.setCell _ _ _ rfl)
            | exact Hoff.out
theorem if_iff {α : Type} {c : Prop} [Decidable c] {x d : α} : ((if c then d else x) = d) ↔ (c ∨ x = d) := by
  split
  · exact ⟨fun _ => .inl (by assumption), fun _ => rfl⟩
  · exact ⟨fun h => .inr h, fun h => h.resolve_left (by assumption)⟩
theorem zO_same {o : Opn} : (decide (zO (shapeN o.kind) (shapeA o.kind) (shapeT o.kind) o = { kind := o.kind })) = ((decide (1 ≤ shapeN o.kind) || o.id == 0) && (decide (2 ≤ shapeN o.kind) || o.to == 0) && (decide (3 ≤ shapeN o.kind) || o.at_ == 0) && (shapeA o.kind || decide (o.name.size = 0)) && (shapeT o.kind || decide (o.text.size = 0))) := by
  have hs : ∀ s : ByteArray, (s = ⟨#[]⟩) ↔ s.size = 0 := fun s => by
    constructor
    · rintro rfl; rfl
    · intro h
      obtain ⟨d⟩ := s
      have : d = #[] := Array.eq_empty_of_size_eq_zero h
      rw [this]
  rw [Bool.eq_iff_iff]
  obtain ⟨k, id, to, at', nm, tx⟩ := o
  simp only [decide_eq_true_eq, Bool.and_eq_true, Bool.or_eq_true, beq_iff_eq, zO, zN, Opn.mk.injEq, true_and]
  have h1 : (0 < shapeN k ∧ 0 < 3) ↔ 1 ≤ shapeN k := by omega
  have h2 : (1 < shapeN k ∧ 1 < 3) ↔ 2 ≤ shapeN k := by omega
  have h3 : (2 < shapeN k ∧ 2 < 3) ↔ 3 ≤ shapeN k := by omega
  simp only [h1, h2, h3]
  have e1 := if_iff (c := 1 ≤ shapeN k) (x := id) (d := 0)
  have e2 := if_iff (c := 2 ≤ shapeN k) (x := to) (d := 0)
  have e3 := if_iff (c := 3 ≤ shapeN k) (x := at') (d := 0)
  have e4 := if_iff (c := shapeA k = true) (x := nm) (d := (⟨#[]⟩ : ByteArray))
  have e5 := if_iff (c := shapeT k = true) (x := tx) (d := (⟨#[]⟩ : ByteArray))
  rw [e1, e2, e3, e4, e5, hs, hs]
  simp only [and_assoc]
end Go.Proofs.YthdenkkllpkplaaGreat.OpMay
end
section
/- op.May itself. -/
namespace Go.Proofs.YthdenkkllpkplaaGreat.OpMay
open Go Go.RowKit Go.Proofs.YthdenkkllpkplaaGreat.Seq Go.Proofs.YthdenkkllpkplaaGreat.WS Go.Proofs.YthdenkkllpkplaaGreat.FS Go.Proofs.YthdenkkllpkplaaGreat.Mem Go.Proofs.YthdenkkllpkplaaGreat.Rd
set_option linter.unusedVariables false
set_option linter.unusedSimpArgs false

def OpMayPost (o : Opn) (w : World) (e : Ending) (w' : World) : Prop := e = .returned (.bool (mayO o)) ∧ Below w.heap.size w w'
theorem empty_toList (s : ByteArray) : s = ⟨#[]⟩ ↔ s.toList = [] := by
  have := FSame.str_inj s ⟨#[]⟩
  have h0 : (⟨#[]⟩ : ByteArray).toList = [] := by rw [ByteArray.toList_eq]
  rw [h0] at this
  exact (iff_of_eq this).symm
theorem z_iff {z : Opn} {k : Int} (h : z.kind = k) : z = { kind := k } ↔ z.id = 0 ∧ z.to = 0 ∧ z.at_ = 0 ∧ z.name.toList = [] ∧ z.text.toList = [] := by
  obtain ⟨a, b, c, d, e, f⟩ := z
  simp only at h
  subst h
  rw [Opn.mk.injEq, empty_toList, empty_toList]
  simp
set_option maxRecDepth 100000 in
set_option maxHeartbeats 4000000 in
theorem opMay_calls (o : Opn) (w : World) : Calls Tryz.prog 22 #[.agg #[.int .i64 o.kind, .int .i64 o.id, .int .i64 o.to, .int .i64 o.at_, .string o.name, .string o.text]] w (OpMayPost o w) := by
  obtain ⟨w1, hw1⟩ : ∃ w1, w.alloc (.cells #[.int .i64 o.kind, .int .i64 o.id, .int .i64 o.to, .int .i64 o.at_, .string o.name, .string o.text] 24) = w1 := ⟨_, rfl⟩
  have hrow : w1.heap[w.heap.size]? = some (.cells (opRow o) 24 (0, 0)) := by rw [← hw1]; exact World.alloc_heap_new w _
  have hb1 : Below w.heap.size w w1 := by rw [← hw1]; exact (Below.refl _ _).alloc (Nat.le_refl _) _
  have hs1 : w1.heap.size = w.heap.size + 1 := by rw [← hw1]; simp
  by_cases hk : 1 ≤ o.kind ∧ o.kind ≤ 8
  · obtain ⟨k, hko⟩ : ∃ k : Nat, o.kind = k := ⟨o.kind.toNat, by omega⟩
    have hc := shaped_calls k (by omega) (by omega) w1
    rw [← hko] at hc
    have hcell := fun w' (hb : Below w1.heap.size w1 w') => op_cells ((hb.block w.heap.size (by omega)).trans hrow)
    have Hc := Lib.hid hc; have Hb1 := Lib.hid hb1; have Hw1 := Lib.hid hw1; have Hcell := Lib.hid hcell; have Hs1 := Lib.hid hs1
    have hdk : decide (1 ≤ o.kind ∧ o.kind ≤ 8) = true := decide_eq_true hk
    have Hdk := Lib.hid hdk
    obtain ⟨c0, _, _, _, _, _, cf⟩ := op_cells hrow
    clear hc hb1 hw1 hrow hk hko hcell hs1 hdk
    by_cases hn : o.name.size ≤ 255
    · by_cases ht : o.text.size ≤ 255
      · obtain ⟨z, hz⟩ : ∃ z, z = zO (shapeN o.kind) (shapeA o.kind) (shapeT o.kind) o := ⟨_, rfl⟩
        have heq := eql_op z { kind := o.kind }
        simp only at heq
        have hm : mayO o = decide (z = { kind := o.kind }) := by
          rw [hz, zO_same]
          unfold mayO
          rw [Hdk.out, decide_eq_true hn, decide_eq_true ht]
          simp
        have Hm := Lib.hid hm; have Hz := Lib.hid hz
        clear hm hz
        go_enter Tryz.func22, Tryz.ntmps22
        go_upto_region 1 with (fail)
        rw [Hw1.out]
        go_upto_region 5 with (go_at_call 55; ((with_reducible refine (Hc.out).mono ?_); rintro e w5 ⟨⟨s5, rfl⟩, hb5⟩; obtain ⟨d0, d1, d2, d3, d4, d5, df⟩ := Hcell.out _ hb5; have a0 := fun ob => cell_alloc d0 ob; have a1 := fun ob => cell_alloc d1 ob; have a2 := fun ob => cell_alloc d2 ob; have a3 := fun ob => cell_alloc d3 ob; have a4 := fun ob => cell_alloc d4 ob; have a5 := fun ob => cell_alloc d5 ob; have Hb5 := Lib.hid hb5; clear hb5))
        obtain ⟨w6, hw6⟩ : ∃ w6, (w5.alloc (.cells #[.string s5, .int .i64 (shapeN o.kind), .bool (shapeA o.kind), .bool (shapeT o.kind)] 119)).alloc (.cells #[.int .i64 o.kind, .int .i64 o.id, .int .i64 o.to, .int .i64 o.at_, .string o.name, .string o.text] 24) = w6 := ⟨_, rfl⟩
        have hrow6 : w6.heap[w5.heap.size + 1]? = some (.cells (opRow o) 24 (0, 0)) := by rw [← hw6]; have := World.alloc_heap_new (w5.alloc (.cells #[.string s5, .int .i64 (shapeN o.kind), .bool (shapeA o.kind), .bool (shapeT o.kind)] 119)) (.cells (opRow o) 24); rwa [World.size_alloc] at this
        have hx6 : w6.heap[w5.heap.size]? = some (.cells #[.string s5, .int .i64 (shapeN o.kind), .bool (shapeA o.kind), .bool (shapeT o.kind)] 119 (0, 0)) := by rw [← hw6]; exact heap_old (World.alloc_heap_new w5 _)
        have hb6 : Below w.heap.size w w6 := by rw [← hw6]; exact ((bthen Hb1.out Hb5.out).alloc (by have := Hb1.out.size; have := Hb5.out.size; omega) _).alloc (by simp; have := Hb1.out.size; have := Hb5.out.size; omega) _
        have hk6 : w6.cell? ⟨w.heap.size, 0, none⟩ = some (.int .i64 o.kind) := by rw [← hw6]; exact cell_alloc (cell_alloc d0 _) _
        have he := each_calls (w5.heap.size + 1) o s5 (shapeN o.kind) (shapeA o.kind) (shapeT o.kind) w6 hrow6
        rw [← Hz.out] at he
        have x0 : w6.cell? ⟨w5.heap.size, 0, none⟩ = some (.string s5) := (cell_of_row _ _ _ _ _ _ hx6).trans rfl
        have x1 : w6.cell? ⟨w5.heap.size, 1, none⟩ = some (.int .i64 (shapeN o.kind)) := (cell_of_row _ _ _ _ _ _ hx6).trans rfl
        have x2 : w6.cell? ⟨w5.heap.size, 2, none⟩ = some (.bool (shapeA o.kind)) := (cell_of_row _ _ _ _ _ _ hx6).trans rfl
        have x3 : w6.cell? ⟨w5.heap.size, 3, none⟩ = some (.bool (shapeT o.kind)) := (cell_of_row _ _ _ _ _ _ hx6).trans rfl
        rw [hw6]
        have hs5 := Hb5.out.size
        have hs11 := Hs1.out
        have hne : w.heap.size ≠ w5.heap.size + 1 := by omega
        have hle : w.heap.size ≤ w5.heap.size + 1 := by omega
        have hl6 := lt_heap hrow6
        have He := Lib.hid he; have hb6' := Lib.hid hb6; have Hk6 := Lib.hid hk6
        have hkz : z.kind = o.kind := by rw [Hz.out]; rfl
        clear he hb6 hw6 hrow6 hx6 d0 d1 d2 d3 d4 d5 df hs5 hs11 a0 a1 a2 a3 a4 a5
        go_wp2_with (go_at_call 56; ((with_reducible refine (He.out).mono ?_); rintro e w7 ⟨rfl, hr7, ho7⟩; obtain ⟨e0, e1, e2, e3, e4, e5, ef⟩ := op_cells hr7; have k7 : w7.cell? ⟨w.heap.size, 0, none⟩ = some (.int .i64 o.kind) := (World.cell?_of_block (ho7.block _ (World.block_lt_of_cell? _ _ Hk6.out) hne)).trans Hk6.out; have Ho7 := Lib.hid ho7; clear ho7 hr7))
        all_goals
          go_ret
          refine ⟨Word.ret_bool ?_, hb6'.out.trans (Ho7.out.toBelow hb6'.out.size (fun b hb => by rw [hb]; exact hle))⟩
          rw [Hm.out]
          first
            | (symm; rw [decide_eq_true_eq]; exact (z_iff hkz).2 ⟨by assumption, by assumption, by assumption, by assumption, by assumption⟩)
            | (symm; rw [decide_eq_false_iff_not, z_iff hkz]; simp [*])
            | (rw [Bool.eq_iff_iff, decide_eq_true_eq, z_iff hkz]; simp [*])
      · have hm : mayO o = false := by
          unfold mayO
          rw [decide_eq_false ht]
          simp
        have Hm := Lib.hid hm
        clear hm
        go_enter Tryz.func22, Tryz.ntmps22
        go_upto_region 1 with (fail)
        rw [Hw1.out]
        go_wp2_with (go_at_call 55; ((with_reducible refine (Hc.out).mono ?_); rintro e w5 ⟨⟨s5, rfl⟩, hb5⟩; obtain ⟨d0, d1, d2, d3, d4, d5, df⟩ := Hcell.out _ hb5; have a0 := fun ob => cell_alloc d0 ob; have a1 := fun ob => cell_alloc d1 ob; have a2 := fun ob => cell_alloc d2 ob; have a3 := fun ob => cell_alloc d3 ob; have a4 := fun ob => cell_alloc d4 ob; have a5 := fun ob => cell_alloc d5 ob; have Hb5 := Lib.hid hb5; clear hb5))
        go_ret
        exact ⟨by rw [Hm.out]; rfl, (bthen Hb1.out Hb5.out).alloc (by have := Hb1.out.size; have := Hb5.out.size; omega) _⟩
    · have hm : mayO o = false := by
        unfold mayO
        rw [decide_eq_false hn]
        simp
      have Hm := Lib.hid hm
      clear hm
      go_enter Tryz.func22, Tryz.ntmps22
      go_upto_region 1 with (fail)
      rw [Hw1.out]
      go_wp2_with (go_at_call 55; ((with_reducible refine (Hc.out).mono ?_); rintro e w5 ⟨⟨s5, rfl⟩, hb5⟩; obtain ⟨d0, d1, d2, d3, d4, d5, df⟩ := Hcell.out _ hb5; have a0 := fun ob => cell_alloc d0 ob; have a1 := fun ob => cell_alloc d1 ob; have a2 := fun ob => cell_alloc d2 ob; have a3 := fun ob => cell_alloc d3 ob; have a4 := fun ob => cell_alloc d4 ob; have a5 := fun ob => cell_alloc d5 ob; have Hb5 := Lib.hid hb5; clear hb5))
      go_ret
      exact ⟨by rw [Hm.out]; rfl, (bthen Hb1.out Hb5.out).alloc (by have := Hb1.out.size; have := Hb5.out.size; omega) _⟩
  · have hm : mayO o = false := by
      unfold mayO
      rw [decide_eq_false hk]
      rfl
    have hc := unshaped_calls o.kind hk w1
    obtain ⟨c0, _, _, _, _, _, cf⟩ := op_cells hrow
    have Hc := Lib.hid hc; have Hb1 := Lib.hid hb1; have Hm := Lib.hid hm; have Hw1 := Lib.hid hw1
    clear hc hb1 hm hw1 hrow hk
    go_enter Tryz.func22, Tryz.ntmps22
    go_upto_region 1 with (fail)
    rw [Hw1.out]
    go_wp2_with (go_at_call 55; ((with_reducible refine (Hc.out).mono ?_); rintro e w5 ⟨rfl, hb5⟩; have Hb5 := Lib.hid hb5; clear hb5))
    go_ret
    exact ⟨by rw [Hm.out]; rfl, (bthen Hb1.out Hb5.out).alloc (by have := Hb1.out.size; have := Hb5.out.size; omega) _⟩
end Go.Proofs.YthdenkkllpkplaaGreat.OpMay
end
