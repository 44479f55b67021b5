/- (*strings.Replacer).Replace. -/
import Derived.Test.YtbbompmpecblgaaReplR
namespace Go.Proofs.Ytbbompmpecblgaa.ReplC
open Go Go.RowKit Go.Proofs.Ytbbompmpecblgaa.Seq Go.Proofs.Ytbbompmpecblgaa.Mem Go.Proofs.Ytbbompmpecblgaa.Build Go.Proofs.Ytbbompmpecblgaa.Repl Go.Proofs.Ytbbompmpecblgaa.ReplB Go.Proofs.Ytbbompmpecblgaa.ReplR
set_option linter.unusedVariables false
set_option linter.unusedSimpArgs false

abbrev tabV (T : Nat) : Value := .iface 199 (.pointer (some ⟨T, 0, none⟩))
/-- What building leaves. -/
def OncePost (rb : Nat) (ps : Pairs) (w : World) (w' : World) : Prop :=
  ∃ T F, w'.heap[rb]? = some (.cells #[.int .u32 0, .int .i32 1, .int .u32 0, tabV T, .slice none 0 0] 133 (0, 0)) ∧ Table T ps (keysOf ps) F w' ∧ (∀ k, F k → w.heap.size ≤ k ∧ k < w'.heap.size) ∧ Off (fun k => k = rb) w w'
theorem once_end {rb : Nat} {ps : Pairs} {w w2 : World} {T : Nat} {F : Nat → Prop} {so : Value} (hr2 : w2.heap[rb]? = some (.cells #[.int .u32 0, .int .i32 1, .int .u32 0, .nilIface, so] 133 (0, 0))) (hlt : rb < w.heap.size) (hT : Table T ps (keysOf ps) F w2) (hF : ∀ k, F k → w.heap.size ≤ k ∧ k < w2.heap.size) (hb : Below w.heap.size w w2) :
    OncePost rb ps w ((w2.setCell ⟨rb, 3, none⟩ (tabV T)).setCell ⟨rb, 4, none⟩ (.slice none 0 0)) := by
  refine ⟨T, F, ?_, hT.keep (fun k hk => ?_) (fun k hk => hk), fun k hk => ⟨(hF k hk).1, by simp [World.setCell]; exact (hF k hk).2⟩, ?_⟩
  · exact setCell_row (setCell_row hr2)
  · have := (hF k hk).1
    exact (heap_set_other (by omega)).trans (heap_set_other (by omega))
  · have h1 : Off (fun k => k = rb) w w2 := Off.below hb (fun b hb1 hb2 => by omega)
    exact (h1.trans (Off.setCell _ _ _ rfl)).trans (Off.setCell _ _ _ rfl)
theorem buildOnce_calls (w : World) (ps : Pairs) (G : ReplB.Good ps) (rb : Nat) (so : Value) (hr : w.heap[rb]? = some (.cells #[.int .u32 0, .int .i32 1, .int .u32 0, .nilIface, so] 133 (0, 0))) (hso : w.ownsRow 0 9 1 so (flat ps).length ((flat ps).map Value.string)) :
    Calls Try.prog 91 #[.pointer (some ⟨rb, 0, none⟩)] w fun e w' => e = .returned (.tuple #[]) ∧ OncePost rb ps w w' := by
  have hbc := build_calls w ps G rb so _ _ hr hso
  have Hbc := Lib.hid hbc; have Hr := Lib.hid hr
  have hlt := lt_heap hr
  clear hbc hr hso G
  go_enter Try.func91, Try.ntmps91
  go_wp2_with (go_at_call 106; (with_reducible refine (Hbc.out).mono ?_); rintro e w2 ⟨T, F, rfl, hT, hF, hb⟩; have hr2 := (hb.block rb hlt).trans Hr.out; have k3 : w2.cell? ⟨rb, 3, none⟩ = some .nilIface := (cell_of_row _ _ _ _ _ _ hr2).trans rfl; have k3f := free_of hr2 3; have k4 : w2.cell? ⟨rb, 4, none⟩ = some so := (cell_of_row _ _ _ _ _ _ hr2).trans rfl; have k4f := free_of hr2 4; have Hr2 := Lib.hid hr2; have HT := Lib.hid hT; have HF := Lib.hid hF; have Hb := Lib.hid hb; clear hr2 hT hF hb)
  go_end0
  exact ⟨rfl, once_end Hr2.out hlt HT.out HF.out Hb.out⟩
/-- What Do leaves. -/
def DonePost (rb : Nat) (ps : Pairs) (F : Nat → Prop) (w : World) (e : Ending) (w' : World) : Prop :=
  e = .returned (.tuple #[]) ∧ ∃ T F', w'.heap[rb]? = some (.cells (onceRow 1 (tabV T) (.slice none 0 0)) 133 (0, 0)) ∧ Table T ps (keysOf ps) F' w' ∧ (∀ k, F' k → (F k ∨ w.heap.size ≤ k) ∧ k < w'.heap.size ∧ k ≠ rb) ∧ Off (fun k => k = rb) w w'
theorem done_end {rb : Nat} {ps : Pairs} {F : Nat → Prop} {w w1 : World} (hlt : rb < w.heap.size) (h : OncePost rb ps (w.setCell ⟨rb, 1, none⟩ (.int .i32 1)) w1) :
    DonePost rb ps F w (.returned (.tuple #[])) ((w1.drew.setCell ⟨rb, 0, none⟩ (.int .u32 1)).setCell ⟨rb, 1, none⟩ (.int .i32 0)) := by
  obtain ⟨T, F', h1, h2, h3, h4⟩ := h
  have hs : (w.setCell ⟨rb, 1, none⟩ (.int .i32 1)).heap.size = w.heap.size := by simp [World.setCell]
  rw [hs] at h3
  refine ⟨rfl, T, F', ?_, h2.keep (fun k hk => ?_) (fun k hk => hk), fun k hk => ⟨.inr (h3 k hk).1, ?_, ?_⟩, ?_⟩
  · have h5 : w1.drew.heap[rb]? = _ := h1
    exact setCell_row (setCell_row h5)
  · have := (h3 k hk).1
    exact (heap_set_other (by omega)).trans (heap_set_other (by omega))
  · have := (h3 k hk).2
    simp [World.setCell]; exact this
  · have := (h3 k hk).1; omega
  · have o1 : Off (fun k => k = rb) w (w.setCell ⟨rb, 1, none⟩ (.int .i32 1)) := Off.setCell _ _ _ rfl
    exact (((o1.trans h4).trans (Off.drew _ _)).trans (Off.setCell _ _ _ rfl)).trans (Off.setCell _ _ _ rfl)
set_option maxRecDepth 100000 in
theorem Do_calls (w : World) (ps : Pairs) (G : ReplB.Good ps) (rb : Nat) (F : Nat → Prop) (h : IsRep rb ps F w) (hF : ∀ k, F k → k < w.heap.size ∧ k ≠ rb) :
    Calls Try.prog 90 #[.pointer (some ⟨rb, 0, none⟩), .func (.func 91) #[.pointer (some ⟨rb, 0, none⟩)] #[]] w (DonePost rb ps F w) := by
  have hnot : ∀ (x : Bool) (w : World), (Op.unary .not (.bool x)).run Try.prog w = .ok (.bool (!x)) w := fun _ _ => rfl
  rcases h with ⟨so, hr, hso, hsf⟩ | ⟨T, hr, hT⟩
  · have hlt := lt_heap hr
    have h0 : w.cell? ⟨rb, 0, none⟩ = some (.int .u32 0) := (cell_of_row _ _ _ _ _ _ hr).trans rfl
    have h1 : w.cell? ⟨rb, 1, none⟩ = some (.int .i32 0) := (cell_of_row _ _ _ _ _ _ hr).trans rfl
    have f1 := free_of hr 1
    have hr1 := setCell_row (i := 1) (v := .int .i32 1) hr
    have hb := buildOnce_calls (w.setCell ⟨rb, 1, none⟩ (.int .i32 1)) ps G rb so hr1 (own_keep hso (fun g hg => heap_set_other (hF g (hsf g hg)).2))
    have hs := Once.slow_calls rb (OncePost rb ps (w.setCell ⟨rb, 1, none⟩ (.int .i32 1))) w h0 h1 f1 (fun w1 ⟨T, F', g1, _⟩ => ⟨(cell_of_row _ _ _ _ _ _ g1).trans rfl, (cell_of_row _ _ _ _ _ _ g1).trans rfl, free_of g1 0, free_of g1 1⟩) hb
    have hl := run_call_load (P := Try.prog) Try.func144 (by kernel_rfl) (by kernel_rfl) (by kernel_rfl) .u32 (by kernel_rfl) h0
    have Hs := Lib.hid hs
    clear hs hb hr1 hr hso hsf hF G h1 f1
    go_enter Try.func90, Try.ntmps90
    go_wp2_with (first | (go_at_call 105; (with_reducible refine (Hs.out).mono ?_); rintro e w' ⟨rfl, w1, hw1, rfl⟩; have Hw1 := Lib.hid hw1; clear hw1) | (go_at_call 104; go_in))
    go_end0
    exact done_end hlt Hw1.out
  · have h0 : w.cell? ⟨rb, 0, none⟩ = some (.int .u32 1) := (cell_of_row _ _ _ _ _ _ hr).trans rfl
    have hl := run_call_load (P := Try.prog) Try.func144 (by kernel_rfl) (by kernel_rfl) (by kernel_rfl) .u32 (by kernel_rfl) h0
    have Hr := Lib.hid hr; have HT := Lib.hid hT; have HF := Lib.hid hF
    clear hr hT hF G
    go_enter Try.func90, Try.ntmps90
    go_wp2
    go_end0
    exact ⟨rfl, T, fun k => F k ∧ k < w.heap.size ∧ k ≠ rb, Hr.out, HT.out.keep (fun _ _ => rfl) (fun k hk => ⟨hk, HF.out k hk⟩), fun k hk => ⟨.inl hk.1, hk.2⟩, Off.refl _ _⟩
/-- What Replace leaves. -/
def RepPost (rb : Nat) (ps : Pairs) (F : Nat → Prop) (s : ByteArray) (w : World) (e : Ending) (w' : World) : Prop :=
  e = .returned (.string ⟨(rp ps s.data.toList).toArray⟩) ∧ ∃ F', IsRep rb ps F' w' ∧ (∀ k, F' k → (F k ∨ w.heap.size ≤ k) ∧ k < w'.heap.size ∧ k ≠ rb) ∧ Off (fun k => k = rb) w w'
theorem method_replace (a : Addr) (w : World) : (method 365 199 (.pointer (some a)) "Replace").run Try.prog w = .ok (213, .pointer (some a)) w := by kernel_rfl
theorem rep_end {rb : Nat} {ps : Pairs} {F F' : Nat → Prop} {s : ByteArray} {w w2 w3 : World} {T : Nat} (hr : w2.heap[rb]? = some (.cells (onceRow 1 (tabV T) (.slice none 0 0)) 133 (0, 0))) (hT : Table T ps (keysOf ps) F' w2)
    (hF : ∀ k, F' k → (F k ∨ w.heap.size ≤ k) ∧ k < w2.heap.size ∧ k ≠ rb) (ho : Off (fun k => k = rb) w w2) (hb : Below w2.heap.size w2 w3) : RepPost rb ps F s w (.returned (.string ⟨(rp ps s.data.toList).toArray⟩)) w3 := by
  refine ⟨rfl, F', .inr ⟨T, (hb.block rb (lt_heap hr)).trans hr, hT.keep (fun k hk => hb.block k (hF k hk).2.1) (fun k hk => hk)⟩, fun k hk => ⟨(hF k hk).1, Nat.lt_of_lt_of_le (hF k hk).2.1 hb.size, (hF k hk).2.2⟩, ho.trans (Off.below hb (fun b h1 h2 => by omega))⟩
set_option maxRecDepth 100000 in
theorem Replace_calls (w : World) (ps : Pairs) (G : ReplB.Good ps) (rb : Nat) (F : Nat → Prop) (h : IsRep rb ps F w) (hF : ∀ k, F k → k < w.heap.size ∧ k ≠ rb) (s : ByteArray) (hs : s.size ≤ 1000) :
    Calls Try.prog 72 #[.pointer (some ⟨rb, 0, none⟩), .string s] w (RepPost rb ps F s w) := by
  have hd := Do_calls w ps G rb F h hF
  have Hd := Lib.hid hd; have HG := Lib.hid G
  clear hd h hF G
  have hmf : ∀ (fn : Fn) (first cap : Array Value) (w : World), (Instr.makeFunc fn first cap).run Try.prog w = .ok (.func fn first cap) w := fun _ _ _ _ => rfl
  go_enter Try.func72, Try.ntmps72
  go_wp2_with (first | (go_at_call 213; (with_reducible refine (Hbs.out).mono ?_); rintro e w3 ⟨rfl, hb3⟩; have Hb3 := Lib.hid hb3; clear hb3) | (go_at_call 90; (with_reducible refine (Hd.out).mono ?_); rintro e w2 ⟨rfl, T, F', hr, hT, hF', ho⟩; have k3 : w2.cell? ⟨rb, 3, none⟩ = some (tabV T) := (cell_of_row _ _ _ _ _ _ hr).trans rfl; have hbs := bsr_calls w2 ps HG.out T F' hT (fun k hk => (hF' k hk).2.1) s hs; have hme := method_replace ⟨T, 0, none⟩; have Hbs := Lib.hid hbs; clear hbs; have Hr := Lib.hid hr; have HT := Lib.hid hT; have HF := Lib.hid hF'; have Ho := Lib.hid ho; clear hr hT hF' ho))
  go_ret
  exact rep_end Hr.out HT.out HF.out Ho.out Hb3.out
end Go.Proofs.Ytbbompmpecblgaa.ReplC
