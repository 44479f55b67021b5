import Derived.Deep.DeepCutAuto
import Derived.Deep.RegionHeld3
import Derived.Deep.AppendLies
import Derived.Deep.RegionLaw
import Derived.Ground.Names2Prog
import Derived.Shelf.Slices.Clone
import Derived.Test.YtmbhkkophkccbaaGreatProg
import Derived.Shelf.SlicesE.DeleteFunc
import Derived.Shelf.SlicesE.Clone
import Derived.Ground.SlgfProg
import Derived.Ground.SlgnProg
import Derived.Test.YtmbhkkophkccbaaGreatC10
import Derived.Test.YtmbhkkophkccbaaGreatC07
import Derived.Test.YtmbhkkophkccbaaGreatC09
import Derived.Test.YtmbhkkophkccbaaGreatC05
import Derived.Test.YtmbhkkophkccbaaGreatC02
import Derived.Test.YtmbhkkophkccbaaGreatC08
section
namespace Go.Proofs.YtmbhkkophkccbaaGreat.ReplC
open Go Go.RowKit Go.Proofs.YtmbhkkophkccbaaGreat.Seq Mem Build Repl ReplB ReplR
set_option linter.unusedVariables false
set_option linter.unusedSimpArgs false

abbrev tabV (T : Nat) : Value := .iface 332 (.pointer (some ⟨T, 0, none⟩))
def OncePost (rb : Nat) (ps : Pairs) (w : World) (w' : World) : Prop :=
 ∃ T F, w'.heap[rb]? = some (.cells #[.int .u32 0, .int .i32 1, .int .u32 0, tabV T, .slice none 0 0] 300 (0, 0)) ∧ Table T ps (keysOf ps) F w' ∧ (∀ k, F k → w.heap.size ≤ k ∧ k < w'.heap.size) ∧ Off (fun k => k = rb) w w'
theorem once_end {rb : Nat} {ps : Pairs} {w w2 : World} {T : Nat} {F : Nat → Prop} {so : Value} (hr2 : w2.heap[rb]? = some (.cells #[.int .u32 0, .int .i32 1, .int .u32 0, .nilIface, so] 300 (0, 0))) (hlt : rb < w.heap.size) (hT : Table T ps (keysOf ps) F w2) (hF : ∀ k, F k → w.heap.size ≤ k ∧ k < w2.heap.size) (hb : Below w.heap.size w w2) :
  OncePost rb ps w ((w2.setCell ⟨rb, 3, none⟩ (tabV T)).setCell ⟨rb, 4, none⟩ (.slice none 0 0)) := by
 refine ⟨T, F, ?_, hT.keep (fun k hk => ?_) (fun k hk => hk), fun k hk => ⟨(hF k hk).1, by simp [World.setCell]; exact (hF k hk).2⟩, ?_⟩
 ·exact setCell_row (setCell_row hr2)
 ·have := (hF k hk).1
  exact (heap_set_other (by omega)).trans (heap_set_other (by omega))
 ·have h1 : Off (fun k => k = rb) w w2 := Off.below hb (fun b hb1 hb2 => by omega)
  exact (h1.trans (Off.setCell _ _ _ rfl)).trans (Off.setCell _ _ _ rfl)
theorem buildOnce_calls (w : World) (ps : Pairs) (G : ReplB.Good ps) (rb : Nat) (so : Value) (hr : w.heap[rb]? = some (.cells #[.int .u32 0, .int .i32 1, .int .u32 0, .nilIface, so] 300 (0, 0))) (hso : w.ownsRow 0 9 1 so (flat ps).length ((flat ps).map Value.string)) :
  Calls Tryz.prog 227 #[.pointer (some ⟨rb, 0, none⟩)] w fun e w' => e = .returned (.tuple #[]) ∧ OncePost rb ps w w' := by
 have hbc := build_calls w ps G rb so _ _ hr hso
 have Hbc := Lib.hid hbc; have Hr := Lib.hid hr
 have hlt := lt_heap hr
 clear hbc hr hso G
 go_enter Tryz.func227, Tryz.ntmps227
 go_wp2_with (go_at_call 243; (with_reducible refine (Hbc.out).mono ?_); rintro e w2 ⟨T, F, rfl, hT, hF, hb⟩; have hr2 := (hb.block rb hlt).trans Hr.out; have k3 : w2.cell? ⟨rb, 3, none⟩ = some .nilIface := (cell_of_row _ _ _ _ _ _ hr2).trans rfl; have k3f := free_of hr2 3; have k4 : w2.cell? ⟨rb, 4, none⟩ = some so := (cell_of_row _ _ _ _ _ _ hr2).trans rfl; have k4f := free_of hr2 4; have Hr2 := Lib.hid hr2; have HT := Lib.hid hT; have HF := Lib.hid hF; have Hb := Lib.hid hb; clear hr2 hT hF hb)
 go_end0
 exact ⟨rfl, once_end Hr2.out hlt HT.out HF.out Hb.out⟩
def DonePost (rb : Nat) (ps : Pairs) (F : Nat → Prop) (w : World) (e : Ending) (w' : World) : Prop :=
 e = .returned (.tuple #[]) ∧ ∃ T F', w'.heap[rb]? = some (.cells (onceRow 1 (tabV T) (.slice none 0 0)) 300 (0, 0)) ∧ Table T ps (keysOf ps) F' w' ∧ (∀ k, F' k → (F k ∨ w.heap.size ≤ k) ∧ k < w'.heap.size ∧ k ≠ rb) ∧ Off (fun k => k = rb) w w'
theorem done_end {rb : Nat} {ps : Pairs} {F : Nat → Prop} {w w1 : World} (hlt : rb < w.heap.size) (h : OncePost rb ps (w.setCell ⟨rb, 1, none⟩ (.int .i32 1)) w1) :
  DonePost rb ps F w (.returned (.tuple #[])) ((w1.drew.setCell ⟨rb, 0, none⟩ (.int .u32 1)).setCell ⟨rb, 1, none⟩ (.int .i32 0)) := by
 obtain ⟨T, F', h1, h2, h3, h4⟩ := h
 have hs : (w.setCell ⟨rb, 1, none⟩ (.int .i32 1)).heap.size = w.heap.size := by simp [World.setCell]
 rw [hs] at h3
 refine ⟨rfl, T, F', ?_, h2.keep (fun k hk => ?_) (fun k hk => hk), fun k hk => ⟨.inr (h3 k hk).1, ?_, ?_⟩, ?_⟩
 ·have h5 : w1.drew.heap[rb]? = _ := h1
  exact setCell_row (setCell_row h5)
 ·have := (h3 k hk).1
  exact (heap_set_other (by omega)).trans (heap_set_other (by omega))
 ·have := (h3 k hk).2
  simp [World.setCell]; exact this
 ·have := (h3 k hk).1; omega
 ·have o1 : Off (fun k => k = rb) w (w.setCell ⟨rb, 1, none⟩ (.int .i32 1)) := Off.setCell _ _ _ rfl
  exact (((o1.trans h4).trans (Off.drew _ _)).trans (Off.setCell _ _ _ rfl)).trans (Off.setCell _ _ _ rfl)
set_option maxRecDepth 100000 in
theorem Do_calls (w : World) (ps : Pairs) (G : ReplB.Good ps) (rb : Nat) (F : Nat → Prop) (h : IsRep rb ps F w) (hF : ∀ k, F k → k < w.heap.size ∧ k ≠ rb) :
  Calls Tryz.prog 226 #[.pointer (some ⟨rb, 0, none⟩), .func (.func 227) #[.pointer (some ⟨rb, 0, none⟩)] #[]] w (DonePost rb ps F w) := by
 have hnot : ∀ (x : Bool) (w : World), (Op.unary .not (.bool x)).run Tryz.prog w = .ok (.bool (!x)) w := fun _ _ => rfl
 rcases h with ⟨so, hr, hso, hsf⟩ | ⟨T, hr, hT⟩
 ·have hlt := lt_heap hr
  have h0 : w.cell? ⟨rb, 0, none⟩ = some (.int .u32 0) := (cell_of_row _ _ _ _ _ _ hr).trans rfl
  have h1 : w.cell? ⟨rb, 1, none⟩ = some (.int .i32 0) := (cell_of_row _ _ _ _ _ _ hr).trans rfl
  have f1 := free_of hr 1
  have hr1 := setCell_row (i := 1) (v := .int .i32 1) hr
  have hb := buildOnce_calls (w.setCell ⟨rb, 1, none⟩ (.int .i32 1)) ps G rb so hr1 (own_keep hso (fun g hg => heap_set_other (hF g (hsf g hg)).2))
  have hs := Once.slow_calls rb (OncePost rb ps (w.setCell ⟨rb, 1, none⟩ (.int .i32 1))) w h0 h1 f1 (fun w1 ⟨T, F', g1, _⟩ => ⟨(cell_of_row _ _ _ _ _ _ g1).trans rfl, (cell_of_row _ _ _ _ _ _ g1).trans rfl, free_of g1 0, free_of g1 1⟩) hb
  have hl := run_call_load (P := Tryz.prog) Tryz.func248 (by kernel_rfl) (by kernel_rfl) (by kernel_rfl) .u32 (by kernel_rfl) h0
  have Hs := Lib.hid hs
  clear hs hb hr1 hr hso hsf hF G h1 f1
  go_enter Tryz.func226, Tryz.ntmps226
  go_wp2_with (first | (go_at_call 242; (with_reducible refine (Hs.out).mono ?_); rintro e w' ⟨rfl, w1, hw1, rfl⟩; have Hw1 := Lib.hid hw1; clear hw1) | (go_at_call 241; go_in))
  go_end0
  exact done_end hlt Hw1.out
 ·have h0 : w.cell? ⟨rb, 0, none⟩ = some (.int .u32 1) := (cell_of_row _ _ _ _ _ _ hr).trans rfl
  have hl := run_call_load (P := Tryz.prog) Tryz.func248 (by kernel_rfl) (by kernel_rfl) (by kernel_rfl) .u32 (by kernel_rfl) h0
  have Hr := Lib.hid hr; have HT := Lib.hid hT; have HF := Lib.hid hF
  clear hr hT hF G
  go_enter Tryz.func226, Tryz.ntmps226
  go_wp2
  go_end0
  exact ⟨rfl, T, fun k => F k ∧ k < w.heap.size ∧ k ≠ rb, Hr.out, HT.out.keep (fun _ _ => rfl) (fun k hk => ⟨hk, HF.out k hk⟩), fun k hk => ⟨.inl hk.1, hk.2⟩, Off.refl _ _⟩
def RepPost (rb : Nat) (ps : Pairs) (F : Nat → Prop) (s : ByteArray) (w : World) (e : Ending) (w' : World) : Prop :=
 e = .returned (.string ⟨(rp ps s.data.toList).toArray⟩) ∧ ∃ F', IsRep rb ps F' w' ∧ (∀ k, F' k → (F k ∨ w.heap.size ≤ k) ∧ k < w'.heap.size ∧ k ≠ rb) ∧ Off (fun k => k = rb) w w'
theorem method_replace (n : Nat) (a : Addr) (w : World) : (method (n + 1) 332 (.pointer (some a)) "Replace").run Tryz.prog w = .ok (308, .pointer (some a)) w := by kernel_rfl
theorem rep_end {rb : Nat} {ps : Pairs} {F F' : Nat → Prop} {s : ByteArray} {w w2 w3 : World} {T : Nat} (hr : w2.heap[rb]? = some (.cells (onceRow 1 (tabV T) (.slice none 0 0)) 300 (0, 0))) (hT : Table T ps (keysOf ps) F' w2)
  (hF : ∀ k, F' k → (F k ∨ w.heap.size ≤ k) ∧ k < w2.heap.size ∧ k ≠ rb) (ho : Off (fun k => k = rb) w w2) (hb : Below w2.heap.size w2 w3) : RepPost rb ps F s w (.returned (.string ⟨(rp ps s.data.toList).toArray⟩)) w3 := by
 refine ⟨rfl, F', .inr ⟨T, (hb.block rb (lt_heap hr)).trans hr, hT.keep (fun k hk => hb.block k (hF k hk).2.1) (fun k hk => hk)⟩, fun k hk => ⟨(hF k hk).1, Nat.lt_of_lt_of_le (hF k hk).2.1 hb.size, (hF k hk).2.2⟩, ho.trans (Off.below hb (fun b h1 h2 => by omega))⟩
set_option maxRecDepth 100000 in
theorem Replace_calls (w : World) (ps : Pairs) (G : ReplB.Good ps) (rb : Nat) (F : Nat → Prop) (h : IsRep rb ps F w) (hF : ∀ k, F k → k < w.heap.size ∧ k ≠ rb) (s : ByteArray) (hs : s.size ≤ 1000) :
  Calls Tryz.prog 203 #[.pointer (some ⟨rb, 0, none⟩), .string s] w (RepPost rb ps F s w) := by
 have hd := Do_calls w ps G rb F h hF
 have Hd := Lib.hid hd; have HG := Lib.hid G
 clear hd h hF G
 have hmf : ∀ (fn : Fn) (first cap : Array Value) (w : World), (Instr.makeFunc fn first cap).run Tryz.prog w = .ok (.func fn first cap) w := fun _ _ _ _ => rfl
 go_enter Tryz.func203, Tryz.ntmps203
 go_wp2_with (first | (go_at_call 308; (with_reducible refine (Hbs.out).mono ?_); rintro e w3 ⟨rfl, hb3⟩; have Hb3 := Lib.hid hb3; clear hb3) | (go_at_call 226; (with_reducible refine (Hd.out).mono ?_); rintro e w2 ⟨rfl, T, F', hr, hT, hF', ho⟩; have k3 : w2.cell? ⟨rb, 3, none⟩ = some (tabV T) := (cell_of_row _ _ _ _ _ _ hr).trans rfl; have hbs := bsr_calls w2 ps HG.out T F' hT (fun k hk => (hF' k hk).2.1) s hs; have hme := fun n => method_replace n ⟨T, 0, none⟩; have Hbs := Lib.hid hbs; clear hbs; have Hr := Lib.hid hr; have HT := Lib.hid hT; have HF := Lib.hid hF'; have Ho := Lib.hid ho; clear hr hT hF' ho))
 go_ret
 exact rep_end Hr.out HT.out HF.out Ho.out Hb3.out
end Go.Proofs.YtmbhkkophkccbaaGreat.ReplC
end
section
namespace Go.Proofs.YtmbhkkophkccbaaGreat.Pr
open Go Go.RowKit Go.Proofs.YtmbhkkophkccbaaGreat.Seq WS FS Mem Rd Shapes Build Repl ReplB ReplR ReplC
set_option linter.unusedVariables false
set_option linter.unusedSimpArgs false

def psQ (q : Bool) : Pairs := [(38, [38, 97, 109, 112, 59]), (60, [38, 108, 116, 59])] ++ (if q then [(34, [38, 113, 117, 111, 116, 59])] else [])
theorem psQ_good (q : Bool) : ReplB.Good (psQ q) := by
 cases q
 ·exact ⟨by decide, by decide, by decide, by decide⟩
 ·exact ⟨by decide, by decide, by decide, by decide⟩
theorem psQ_lkd (q : Bool) (c : UInt8) : lkd (psQ q) c = repl q c := by
 unfold lkd psQ repl
 by_cases h1 : c = 38
 ·subst h1; cases q <;> rfl
 ·by_cases h2 : c = 60
  ·subst h2; cases q <;> rfl
  ·have e1 : ((38 : UInt8) == c) = false := by simpa using fun h => h1 h.symm
   have e2 : ((60 : UInt8) == c) = false := by simpa using fun h => h2 h.symm
   cases q
   ·simp [List.find?_cons, e1, e2, h1, h2]
   ·by_cases h3 : c = 34
    ·subst h3; rfl
    ·have e3 : ((34 : UInt8) == c) = false := by simpa using fun h => h3 h.symm
     simp [List.find?_cons, e1, e2, e3, h1, h2, h3]
theorem psQ_rp (q : Bool) (l : List UInt8) : rp (psQ q) l = esc q l := by
 unfold rp esc
 rw [show rp1 (psQ q) = escB q from funext fun c => by unfold rp1 escB; rw [psQ_lkd]]

structure Lay where
 f : Fo
 B : Nat
 A : Option Addr
 c : Nat
 b : Nat
 bt : Nat
 bv : Nat
 bk : Nat
 bp : Nat
 bF : Nat
 rt : Nat
 rv : Nat
 Bp : Nat
structure Lay.OK (L : Lay) : Prop where
 lt : L.b < L.Bp ∧ L.bt < L.Bp ∧ L.bv < L.Bp ∧ L.bk < L.Bp ∧ L.bp < L.Bp ∧ L.bF < L.Bp ∧ L.rt < L.Bp ∧ L.rv < L.Bp
 ge : L.B ≤ L.b ∧ L.B ≤ L.rt ∧ L.B ≤ L.rv
 ne : L.b ≠ L.rt ∧ L.b ≠ L.rv ∧ L.rt ≠ L.rv
 nt : L.bt ≠ L.b ∧ L.bt ≠ L.rt ∧ L.bt ≠ L.rv
 nv : L.bv ≠ L.b ∧ L.bv ≠ L.rt ∧ L.bv ≠ L.rv
 nk : L.bk ≠ L.b ∧ L.bk ≠ L.rt ∧ L.bk ≠ L.rv
 np : L.bp ≠ L.b ∧ L.bp ≠ L.rt ∧ L.bp ≠ L.rv
 nF : L.bF ≠ L.b ∧ L.bF ≠ L.rt ∧ L.bF ≠ L.rv
def YP (L : Lay) (v : Value) : Nat → Prop := fun k => k = L.b ∨ k = L.rt ∨ k = L.rv ∨ v.ownBlock = some k
structure PInv (L : Lay) (l : List UInt8) (v : Value) (Fs : Nat → Prop) (w : World) : Prop where
 vF : w.heap[L.bF]? = some (.cells #[.slice L.A L.f.length L.c] 29 (0, 0))
 vt : w.heap[L.bt]? = some (.cells #[.pointer (some ⟨L.rt, 0, none⟩)] 263 (0, 0))
 vv : w.heap[L.bv]? = some (.cells #[.pointer (some ⟨L.rv, 0, none⟩)] 263 (0, 0))
 vk : w.heap[L.bk]? = some (.cells #[.func (.func 201) #[] #[.pointer (some ⟨L.bp, 0, none⟩), .pointer (some ⟨L.bF, 0, none⟩)]] 265 (0, 0))
 vp : w.heap[L.bp]? = some (.cells #[.func (.func 202) #[] #[.pointer (some ⟨L.b, 0, none⟩), .pointer (some ⟨L.bt, 0, none⟩), .pointer (some ⟨L.bk, 0, none⟩), .pointer (some ⟨L.bv, 0, none⟩)]] 265 (0, 0))
 rd : RdF L.B w (.slice L.A L.f.length L.c) L.f
 bd : IsB L.B L.b l v w
 r1 : IsRep L.rt (psQ false) Fs w
 r2 : IsRep L.rv (psQ true) Fs w
 fs : ∀ k, Fs k → k < w.heap.size ∧ k ≠ L.b ∧ k ≠ L.rt ∧ k ≠ L.rv ∧ v.ownBlock ≠ some k
 own : ∀ g, v.ownBlock = some g → L.Bp ≤ g
 sz : L.Bp ≤ w.heap.size
def Grew (w : World) (v v' : Value) : Prop := v'.ownBlock = v.ownBlock ∨ ∃ g, v'.ownBlock = some g ∧ w.heap.size ≤ g
theorem Grew.refl (w : World) (v : Value) : Grew w v v := .inl rfl
theorem Grew.trans {w w1 : World} {v v1 v2 : Value} (h : Grew w v v1) (k : Grew w1 v1 v2) (hs : w.heap.size ≤ w1.heap.size) : Grew w v v2 := by
 rcases k with k | ⟨g, k1, k2⟩
 ·unfold Grew; rw [k]; exact h
 ·exact .inr ⟨g, k1, Nat.le_trans hs k2⟩
theorem YP.trans {L : Lay} {v v1 : Value} {w w1 w2 : World} (h : Off (YP L v) w w1) (g : Grew w v v1) (k : Off (YP L v1) w1 w2) : Off (YP L v) w w2 :=
 h.trans' k (fun b hb => by
  rcases hb with hb | hb | hb | hb
  ·exact .inl (.inl hb)
  ·exact .inl (.inr (.inl hb))
  ·exact .inl (.inr (.inr (.inl hb)))
  ·rcases g with g | ⟨x, g1, g2⟩
   ·exact .inl (.inr (.inr (.inr (by rw [← g]; exact hb))))
   ·rw [g1] at hb; injection hb with hb; subst hb; exact .inr g2)
def Safe (L : Lay) (v : Value) (g : Nat) : Prop := ¬ YP L v g
theorem Safe.step {L : Lay} {v v' : Value} {w : World} {g : Nat} (h : Safe L v g) (hg : Grew w v v') (hlt : g < w.heap.size) : Safe L v' g := by
 intro hy
 rcases hy with hy | hy | hy | hy
 ·exact h (.inl hy)
 ·exact h (.inr (.inl hy))
 ·exact h (.inr (.inr (.inl hy)))
 ·rcases hg with hg | ⟨x, g1, g2⟩
  ·exact h (.inr (.inr (.inr (by rw [← hg]; exact hy))))
  ·rw [g1] at hy; injection hy with hy; omega
section
variable {L : Lay} {l : List UInt8} {v : Value} {Fs : Nat → Prop} {w w' : World}
theorem PInv.lo (h : PInv L l v Fs w) (ok : L.OK) : ∀ k, YP L v k → L.B ≤ k := by
 rintro k (rfl | rfl | rfl | hk)
 ·exact ok.ge.1
 ·exact ok.ge.2.1
 ·exact ok.ge.2.2
 ·have := h.own k hk
  have := ok.lt.1
  have := ok.ge.1
  omega
theorem PInv.safe (h : PInv L l v Fs w) (ok : L.OK) {g : Nat} (hg : g < L.Bp) (h1 : g ≠ L.b ∧ g ≠ L.rt ∧ g ≠ L.rv) : Safe L v g := by
 rintro (e | e | e | e)
 ·exact h1.1 e
 ·exact h1.2.1 e
 ·exact h1.2.2 e
 ·have := h.own g e; omega
theorem PInv.fresh (h : PInv L l v Fs w) (ok : L.OK) {g : Nat} (hg : w.heap.size ≤ g) : Safe L v g := by
 have := h.sz
 have := ok.lt
 rintro (e | e | e | e)
 ·omega
 ·omega
 ·omega
 ·have := (h.bd.row.lt g e).2; omega
theorem PInv.turn {l' : List UInt8} {v' : Value} {Fs' : Nat → Prop} (h : PInv L l v Fs w) (ok : L.OK) (ho : Off (YP L v) w w') (hg : Grew w v v') (hbd : IsB L.B L.b l' v' w') (h1 : IsRep L.rt (psQ false) Fs' w') (h2 : IsRep L.rv (psQ true) Fs' w')
  (hfs : ∀ k, Fs' k → k < w'.heap.size ∧ k ≠ L.b ∧ k ≠ L.rt ∧ k ≠ L.rv ∧ v'.ownBlock ≠ some k) : PInv L l' v' Fs' w' where
 vF := ho.keep h.vF (h.safe ok ok.lt.2.2.2.2.2.1 ok.nF)
 vt := ho.keep h.vt (h.safe ok ok.lt.2.1 ok.nt)
 vv := ho.keep h.vv (h.safe ok ok.lt.2.2.1 ok.nv)
 vk := ho.keep h.vk (h.safe ok ok.lt.2.2.2.1 ok.nk)
 vp := ho.keep h.vp (h.safe ok ok.lt.2.2.2.2.1 ok.np)
 rd := h.rd.keep nodeE_keeps (ho.toBelow (by have := h.sz; have := ok.lt.1; have := ok.ge.1; omega) (h.lo ok)) (Nat.le_refl _)
 bd := hbd
 r1 := h1
 r2 := h2
 fs := hfs
 own := fun g hgo => by
  rcases hg with hg | ⟨x, g1, g2⟩
  ·exact h.own g (by rw [← hg]; exact hgo)
  ·rw [g1] at hgo; injection hgo with e; subst e; exact Nat.le_trans h.sz g2
 sz := Nat.le_trans h.sz ho.size
theorem PInv.still (h : PInv L l v Fs w) (ok : L.OK) (ho : Off (fun _ => False) w w') : PInv L l v Fs w' :=
 have hk : ∀ k, k < w.heap.size → w'.heap[k]? = w.heap[k]? := fun k hk => ho.block k hk id
 h.turn ok (ho.mono (fun _ _ x => x.elim)) (Grew.refl _ _) (h.bd.keep (hk _ h.bd.lt) (fun g hg => hk g (h.bd.row.lt g hg).2))
  (h.r1.keep (hk _ (by have := ok.lt; have := h.sz; omega)) (fun k hf => hk k (h.fs k hf).1) (fun _ x => x)) (h.r2.keep (hk _ (by have := ok.lt; have := h.sz; omega)) (fun k hf => hk k (h.fs k hf).1) (fun _ x => x))
  (fun k hf => ⟨Nat.lt_of_lt_of_le (h.fs k hf).1 ho.size, (h.fs k hf).2⟩)
theorem PInv.alloc (h : PInv L l v Fs w) (ok : L.OK) (o : Obj) : PInv L l v Fs (w.alloc o) := h.still ok (Off.alloc _ _ _)
theorem PInv.drew (h : PInv L l v Fs w) (ok : L.OK) : PInv L l v Fs w.drew := h.still ok (Off.drew _ _)
end
def PPost (L : Lay) (l p : List UInt8) (v : Value) (w w' : World) : Prop := ∃ v' Fs', PInv L (l ++ p) v' Fs' w' ∧ Off (YP L v) w w' ∧ Grew w v v'
theorem write_P (L : Lay) (ok : L.OK) (l : List UInt8) (v : Value) (Fs : Nat → Prop) (w : World) (h : PInv L l v Fs w) (s : ByteArray) (hl : l.length + s.size ≤ 140737488355328) :
  Calls Tryz.prog 136 #[.pointer (some ⟨L.b, 0, none⟩), .string s] w fun e w' => e = .returned (.tuple #[.int .i64 s.size, .nilIface]) ∧ PPost L l s.data.toList v w w' := by
 refine (WriteString_calls L.B L.b l v s w h.bd hl).mono ?_
 rintro e w' ⟨rfl, v', hb, ho, hg⟩
 have ho' : Off (YP L v) w w' := ho.mono (fun k _ hk => hk.elim .inl (fun x => .inr (.inr (.inr x))))
 have hkeep : ∀ k, k < w.heap.size → k ≠ L.b → v.ownBlock ≠ some k → w'.heap[k]? = w.heap[k]? := fun k h1 h2 h3 => ho.block k h1 (fun x => x.elim h2 h3)
 have hown : ∀ k, k < L.Bp → v.ownBlock ≠ some k := fun k hk e => by have := h.own k e; omega
 refine ⟨rfl, v', Fs, h.turn ok ho' hg hb ?_ ?_ (fun k hk => ?_), ho', hg⟩
 ·exact h.r1.keep (hkeep _ (by have := ok.lt; have := h.sz; omega) (fun e => ok.ne.1 e.symm) (hown _ (by have := ok.lt; omega))) (fun k hk => hkeep k (h.fs k hk).1 (h.fs k hk).2.1 (h.fs k hk).2.2.2.2) (fun _ x => x)
 ·exact h.r2.keep (hkeep _ (by have := ok.lt; have := h.sz; omega) (fun e => ok.ne.2.1 e.symm) (hown _ (by have := ok.lt; omega))) (fun k hk => hkeep k (h.fs k hk).1 (h.fs k hk).2.1 (h.fs k hk).2.2.2.2) (fun _ x => x)
 ·have := h.fs k hk
  refine ⟨Nat.lt_of_lt_of_le this.1 ho.size, this.2.1, this.2.2.1, this.2.2.2.1, ?_⟩
  rcases hg with hg | ⟨x, g1, g2⟩
  ·rw [hg]; exact this.2.2.2.2
  ·rw [g1]; intro e; injection e with e; omega
theorem rep_P (L : Lay) (ok : L.OK) (q : Bool) (r : Nat) (hr : r = if q then L.rv else L.rt) (l : List UInt8) (v : Value) (Fs : Nat → Prop) (w : World) (h : PInv L l v Fs w) (s : ByteArray) (hs : s.size ≤ 1000) :
  Calls Tryz.prog 203 #[.pointer (some ⟨r, 0, none⟩), .string s] w fun e w' => e = .returned (.string ⟨(esc q s.data.toList).toArray⟩) ∧ ∃ Fs', PInv L l v Fs' w' ∧ Off (YP L v) w w' := by
 have hrep : IsRep r (psQ q) Fs w := by cases q; rw [hr]; exact h.r1; rw [hr]; exact h.r2
 have hrne : ∀ k, Fs k → k < w.heap.size ∧ k ≠ r := fun k hk => ⟨(h.fs k hk).1, by cases q; rw [hr]; exact (h.fs k hk).2.2.1; rw [hr]; exact (h.fs k hk).2.2.2.1⟩
 have hrY : YP L v r := by cases q; rw [hr]; exact .inr (.inl rfl); rw [hr]; exact .inr (.inr (.inl rfl))
 have hrb : L.b ≠ r := by cases q; rw [hr]; exact ok.ne.1; rw [hr]; exact ok.ne.2.1
 have hrl : r < L.Bp := by have := ok.lt; cases q <;> simp at hr <;> omega
 refine (Replace_calls w (psQ q) (psQ_good q) r Fs hrep hrne s hs).mono ?_
 rintro e w' ⟨rfl, F', hr', hF', ho⟩
 rw [psQ_rp]
 have ho' : Off (YP L v) w w' := ho.mono (fun k _ hk => by rw [hk]; exact hrY)
 have hkeep : ∀ k, k < w.heap.size → k ≠ r → w'.heap[k]? = w.heap[k]? := fun k h1 h2 => ho.block k h1 h2
 have hown : ∀ k, k < L.Bp → v.ownBlock ≠ some k := fun k hk e => by have := h.own k e; omega
 have hfs : ∀ k, (Fs k ∨ F' k) → k < w'.heap.size ∧ k ≠ L.b ∧ k ≠ L.rt ∧ k ≠ L.rv ∧ v.ownBlock ≠ some k := by
  have hsz := h.sz
  have hlt := ok.lt
  have old : ∀ k, Fs k → k < w'.heap.size ∧ k ≠ L.b ∧ k ≠ L.rt ∧ k ≠ L.rv ∧ v.ownBlock ≠ some k := fun k hk => ⟨Nat.lt_of_lt_of_le (h.fs k hk).1 ho.size, (h.fs k hk).2⟩
  rintro k (hk | hk)
  ·exact old k hk
  ·rcases (hF' k hk).1 with hk2 | hk2
   ·exact old k hk2
   ·refine ⟨(hF' k hk).2.1, by omega, by omega, by omega, fun e => ?_⟩
    have := (h.bd.row.lt k e).2
    omega
 have hbd : IsB L.B L.b l v w' := h.bd.keep (hkeep _ h.bd.lt hrb) (fun g hg => hkeep g (h.bd.row.lt g hg).2 (fun e => by have := h.own g hg; omega))
 have mine : IsRep r (psQ q) (fun k => Fs k ∨ F' k) w' := hr'.keep rfl (fun _ _ => rfl) (fun _ x => .inr x)
 refine ⟨rfl, _, h.turn ok ho' (Grew.refl _ _) hbd ?_ ?_ hfs, ho'⟩
 ·cases q with
  | false => simp at hr; subst hr; exact mine
  | true => simp at hr; subst hr; exact h.r1.keep (hkeep _ (by have := ok.lt; have := h.sz; omega) ok.ne.2.2) (fun k hk => hkeep k (h.fs k hk).1 (h.fs k hk).2.2.2.1) (fun _ x => .inl x)
 ·cases q with
  | true => simp at hr; subst hr; exact mine
  | false => simp at hr; subst hr; exact h.r2.keep (hkeep _ (by have := ok.lt; have := h.sz; omega) (fun e => ok.ne.2.2 e.symm)) (fun k hk => hkeep k (h.fs k hk).1 (h.fs k hk).2.2.1) (fun _ x => .inl x)
end Go.Proofs.YtmbhkkophkccbaaGreat.Pr
end
section
namespace Go.Proofs.YtmbhkkophkccbaaGreat.LKinds
open Go Go.RowKit Go.Proofs.YtmbhkkophkccbaaGreat.Seq WS FS Mem Rd Shapes Word FFam OwnF
set_option linter.unusedVariables false
set_option linter.unusedSimpArgs false

theorem info_node : (Tryz.prog.info? 50).map (fun i => (i.zero, i.size, i.bytes)) = some (some (.agg #[.int .i64 0, .string ⟨#[]⟩, .string ⟨#[]⟩, .slice none 0 0, .int .i64 0, .slice none 0 0]), 6, 96) := by kernel_rfl
theorem pl_clone {ops : Array Oper} {rest : List Oper} {o : Oper} {a : Act} {Q : Exit → Act → World → Prop} (W : World) (hgd : o.guard = none) (s x : Operand)
  (ho : o.op = .call { callee := .builtin .append, args := #[s, x], argTypes := #[29, 29] }) (A : Option Addr) (c : Nat) (f : Fo) (hs : a.eval s = .slice (some ⟨W.heap.size, 0, none⟩) 0 0) (hx : a.eval x = .slice A f.length c)
  (hf : RdF W.heap.size W (.slice A f.length c) f) (h0 : 0 < f.length) (h1 : f.length ≤ 1000)
  (h : ∀ g cap w1, OwnF 50 W.heap.size w1 (.slice (some ⟨g, 0, none⟩) f.length cap) f → Below W.heap.size W w1 → W.heap.size ≤ g → g < w1.heap.size → wpList Tryz.prog ops Q rest (a.put o.dst (.slice (some ⟨g, 0, none⟩) f.length cap)) w1) :
  wpList Tryz.prog ops Q (o :: rest) a (W.alloc (.cells #[] 50)) := by
 obtain ⟨i0, hi, hz0, hz1, hz2⟩ := info_parts info_node
 obtain ⟨b, off, xs, rfl, hb, hl, hc, hn⟩ := rd_cells hf (Nat.le_refl _) h0
 have hown : (W.alloc (.cells #[] 50)).ownsRow W.heap.size 50 6 (.slice (some ⟨W.heap.size, 0, none⟩) 0 0) 0 [] := World.ownsRow_made W #[] 0 (Nat.le_refl _) (by simp [maxLen]) (by simp)
 have hone : ∀ u ∈ xs, u.oneCell' = true := by
  intro u hu
  obtain ⟨j, hj, rfl⟩ := List.mem_iff_getElem.1 hu
  have h6 := hn (j / 6) (by omega)
  refine h6.one _ ?_
  rw [List.mem_iff_getElem?]
  refine ⟨j % 6, ?_⟩
  rw [List.getElem?_take, if_pos (Nat.mod_lt _ (by decide)), List.getElem?_drop, show j / 6 * 6 + j % 6 = j by omega, List.getElem?_eq_getElem hj]
 refine wpList_append_own_at (W.alloc (.cells #[] 50)) hgd s x 29 ho W.heap.size 50 i0 _ 6 96 Tryz.underlying29 hi hz0 hz1 hz2 rfl (by decide) _ 0 [] hs hown ⟨b, off, none⟩ f.length c xs hx (by omega) (fun j u hj => ?_) hone (by simp only [maxLen]; omega) (by omega) (by simp) ?_
 ·rw [Addr.add_lit]
  exact cell_alloc (hc j u hj) _
 ·intro v' w' ho' hg' hnil hat
  have hO := OwnF.more (f := []) (g := f) (v' := v') hown (fun i hi => absurd hi (by simp)) hl (fun i hi => (hn i hi).keep (w' := W.alloc (.cells #[] 50)) (fun b hb _ => Below.heap_alloc _ _ _ hb) (by simp) (fun b hb _ e => by injection e with e; have : W.heap.size = b := e; omega)) (by simpa using ho') hg' (by
   rcases hat with e | e
   ·exact .inl e
   ·exact .inr e)
  rw [List.nil_append] at hO
  obtain ⟨g, cap, rfl, hge, hlt, _⟩ := hO.form h0
  refine h g cap w' hO ?_ hge hlt
  exact ((Off.alloc (fun b => W.heap.size ≤ b) W _).trans (Off.grown hg' (fun r hr => by injection hr with hr; have : W.heap.size = r := hr; omega))).toBelow (Nat.le_refl _) (fun b hb => hb)
end Go.Proofs.YtmbhkkophkccbaaGreat.LKinds
end
section
namespace Go.Proofs.YtmbhkkophkccbaaGreat.Its
open Go Go.RowKit Go.Proofs.YtmbhkkophkccbaaGreat.Seq WS FS Mem Rd Shapes Word FFam OwnF
set_option linter.unusedVariables false
set_option linter.unusedSimpArgs false

def atCells (l : List Av) : List Value := l.flatMap (fun a => [.string a.name, .string a.value])
theorem atCells_snoc (l : List Av) (a : Av) : atCells (l ++ [a]) = atCells l ++ [.string a.name, .string a.value] := by unfold atCells; rw [List.flatMap_append]; simp
theorem atCells_length : ∀ l : List Av, (atCells l).length = l.length * 2
 | [] => rfl
 | a :: l => by have := atCells_length l; unfold atCells at this ⊢; rw [List.flatMap_cons, List.length_append, this]; simp; omega
theorem atCells_at : ∀ {l : List Av} {i : Nat} (h : i < l.length), ((atCells l).drop (i * 2)).take 2 = [.string l[i].name, .string l[i].value]
 | a :: l, 0, h => rfl
 | a :: l, i + 1, h => by
  have := atCells_at (l := l) (i := i) (by simpa using h)
  unfold atCells at this ⊢
  rw [List.flatMap_cons, show (i + 1) * 2 = i * 2 + 1 + 1 by omega]
  exact this
theorem rows_attrs {w : World} {base : Nat} {e : TypeId} {v : Value} {l : List Av} {S : Nat → Prop} (h : w.ownsRow base e 2 v l.length (atCells l)) (hS : ∀ g, v.ownBlock = some g → S g) (hm : ∀ a ∈ l, a.name.size ≤ maxLen ∧ a.value.size ≤ maxLen) : RdS attrS 2 S w v l :=
 RdS.of_own h rfl hS (fun i hi => ⟨atCells_at hi, hm _ (List.getElem_mem _)⟩)
theorem info_rnode : (Tryz.prog.info? 58).map (fun i => (i.zero, i.size, i.bytes)) = some (some (.agg #[.int .i64 0, .string ⟨#[]⟩, .string ⟨#[]⟩, .slice none 0 0, .int .i64 0, .slice none 0 0]), 6, 96) := by kernel_rfl
theorem info_rattr : (Tryz.prog.info? 111).map (fun i => (i.zero, i.size, i.bytes)) = some (some (.agg #[.string ⟨#[]⟩, .string ⟨#[]⟩]), 2, 32) := by kernel_rfl
def NBox (gn : Nat) (kd : Int) (nm tx : ByteArray) (par : Int) (vk : Value) (l : List Av) (va : Value) (wo wi : World) : Prop :=
 wi.heap[gn]? = some (.cells #[.int .i64 kd, .string nm, .string tx, va, .int .i64 par, vk] 58 (0, 0)) ∧ wi.ownsRow (gn + 1) 111 2 va l.length (atCells l) ∧ Below wo.heap.size wo wi
theorem nbox_step {gn : Nat} {kd : Int} {nm tx : ByteArray} {par : Int} {vk : Value} {l : List Av} {a : Av} {va : Value} {wo wr w7 : World} {g7 n7 cap7 : Nat} {wm : World} (hgn : gn = wo.heap.size)
  (h : NBox gn kd nm tx par vk l va wo wr) (hwm : wm = (wr.alloc (.cells #[.string a.name, .string a.value] 111)).drew)
  (hown : w7.ownsRow (gn + 1) 111 2 (.slice (some ⟨g7, 0, none⟩) n7 cap7) (l ++ [a]).length (atCells (l ++ [a]))) (hgr : wm.grownBy w7 va.ownBlock) (hat : va.ownBlock = some g7 ∨ g7 = wr.heap.size + 1) :
  NBox gn kd nm tx par vk (l ++ [a]) (.slice (some ⟨g7, 0, none⟩) n7 cap7) wo (w7.setCell ⟨gn, 3, none⟩ (.slice (some ⟨g7, 0, none⟩) n7 cap7)) := by
 obtain ⟨h1, h2, h3⟩ := h
 subst hwm
 have hlt := lt_heap h1
 have hne : va.ownBlock ≠ some gn := fun e => by have := (h2.lt gn e).1; omega
 have e7 := (hgr.block gn (Nat.lt_of_lt_of_le hlt (by simp)) (fun e => hne e.symm)).trans (heap_old h1)
 have hg7 : g7 ≠ gn := by
  rcases hat with e | e
  ·intro e2; exact hne (by rw [e, e2])
  ·omega
 refine ⟨(Repl.setCell_row e7).trans rfl, own_keep hown (fun g hg => heap_other (by injection hg with hg; have : g7 = g := hg; omega)), ?_⟩
 have b1 : Below wo.heap.size wo (wr.alloc (.cells #[.string a.name, .string a.value] 111)).drew := (h3.alloc h3.size _).drew
 have b2 := b1.trans ((Off.grown (Y := fun b => wo.heap.size ≤ b) hgr (fun r hr => by have := (h2.lt r hr).1; omega)).toBelow b1.size (fun b hb => hb))
 exact b2.setCell (by simp; omega) _
 where heap_other {w : World} {b g i : Nat} {v : Value} (h : g ≠ b) : (w.setCell ⟨b, i, none⟩ v).heap[g]? = w.heap[g]? := Below.heap_setCell _ _ _ _ h
theorem attrs_small {B : Nat} {w : World} {v : Value} {l : List Av} (h : RdL attrE 2 B w v l) : ∀ a ∈ l, a.name.size ≤ maxLen ∧ a.value.size ≤ maxLen := by
 intro a ha
 obtain ⟨i, hi, rfl⟩ := List.mem_iff_getElem.1 ha
 obtain ⟨A, c, rfl, _, _, h'⟩ := h.form
 obtain ⟨b, o, cs, _, _, _, _, _, h1, h2⟩ := h'.at_ hi
 exact ⟨h1, h2⟩
theorem out_step {w wo wr w8 : World} {fs : Fo} {k gn : Nat} {kd : Int} {nm tx : ByteArray} {par : Int} {ats : List Av} {kks : List Int} {Ak A3 AO : Option Addr} {ck n3 c3 nO cO : Nat} {xsO : List Value} {v8 : Value} (hkl : fs.length = k)
  (hnd : ∀ i (hi : i < fs.length), nodeS (fun b => (Value.slice AO nO cO).ownBlock ≠ some b) wo ((xsO.drop (i * 6)).take 6) fs[i]) (hro : wo.ownsRow w.heap.size 58 6 (.slice AO nO cO) fs.length xsO)
  (hN : NBox gn kd nm tx par (.slice Ak kks.length ck) ats (.slice A3 n3 c3) wo wr) (hgn : gn = wo.heap.size) (hrk : RdL (intE .i64) 1 w.heap.size wr (.slice Ak kks.length ck) kks)
  (hrO2 : (wr.alloc (.cells #[.int .i64 kd, .string nm, .string tx, .slice A3 n3 c3, .int .i64 par, .slice Ak kks.length ck] 58)).ownsRow w.heap.size 58 6 (.slice AO nO cO) k xsO)
  (hown : w8.ownsRow w.heap.size 58 6 v8 (k + 1) (xsO ++ [.int .i64 kd, .string nm, .string tx, .slice A3 n3 c3, .int .i64 par, .slice Ak kks.length ck]))
  (hgr : (wr.alloc (.cells #[.int .i64 kd, .string nm, .string tx, .slice A3 n3 c3, .int .i64 par, .slice Ak kks.length ck] 58)).grownBy w8 (Value.slice AO nO cO).ownBlock)
  (hat : v8.ownBlock = (Value.slice AO nO cO).ownBlock ∨ v8.ownBlock = some (wr.alloc (.cells #[.int .i64 kd, .string nm, .string tx, .slice A3 n3 c3, .int .i64 par, .slice Ak kks.length ck] 58)).heap.size)
  (ha : ∀ a ∈ ats, a.name.size ≤ maxLen ∧ a.value.size ≤ maxLen) (hsm : nm.size ≤ maxLen ∧ tx.size ≤ maxLen ∧ (Lit.int .i64 kd).wf = true ∧ (Lit.int .i64 par).wf = true) (hws : w.heap.size ≤ wr.heap.size) :
  OwnF 58 w.heap.size w8 v8 (fs ++ [⟨kd, nm, tx, ats, par, kks⟩]) := by
 obtain ⟨hbx, hrow, hbel⟩ := hN
 have hal : ∀ b, b < wr.heap.size → (wr.alloc (.cells #[.int .i64 kd, .string nm, .string tx, .slice A3 n3 c3, .int .i64 par, .slice Ak kks.length ck] 58)).heap[b]? = wr.heap[b]? := fun b hb => Below.heap_alloc _ _ _ hb
 subst hkl
 refine OwnF.more (w := wr.alloc (.cells #[.int .i64 kd, .string nm, .string tx, .slice A3 n3 c3, .int .i64 par, .slice Ak kks.length ck] 58)) (f := fs) (g := [⟨kd, nm, tx, ats, par, kks⟩]) hrO2 (fun i hi => (hnd i hi).keep (fun b _ hb => (hal b (Nat.lt_of_lt_of_le hb hbel.size)).trans (hbel.block b hb)) (by have := hbel.size; simp; omega) (fun _ x _ => x)) rfl (fun i hi => ?_) hown hgr hat
 obtain rfl : i = 0 := by simp at hi; omega
 refine ⟨.slice A3 n3 c3, .slice Ak kks.length ck, rfl, ?_, ?_, hsm⟩
 ·refine (rows_attrs (S := fun b => (Value.slice AO nO cO).ownBlock ≠ some b) hrow (fun g hg e => ?_) ha).keep (fun b _ hb => hal b hb) (by simp) (fun _ x _ => x)
  have := (hrow.lt g hg).1
  have := (hro.lt g e).2
  omega
 ·exact (RdS.of_rd (E := intS) hrk hws).keep (fun b hb _ => hal b (by omega)) (by simp) (fun b hb _ e => by have := (hro.lt b e).1; omega)
end Go.Proofs.YtmbhkkophkccbaaGreat.Its
end
section
namespace Go.Proofs.YtmbhkkophkccbaaGreat.Work
open Go Go.RowKit Go.Proofs.YtmbhkkophkccbaaGreat.Seq WS FS Mem Rd Shapes Word FFam OwnF
set_option linter.unusedVariables false
set_option linter.unusedSimpArgs false

def DoPost [Avoid] (base wk : Nat) (o : Opn) (f' : Fo) (w : World) (e : Ending) (w' : World) : Prop := e = .returned (.tuple #[]) ∧ ∃ g c, Wk base wk g c o f' w' ∧ Below base w w'
def Do [Avoid] (K : FuncId) (base wk g c : Nat) (o : Opn) (f f' : Fo) : Prop := ∀ w, Wk base wk g c o f w → Calls Tryz.prog K #[.pointer (some ⟨wk, 0, none⟩)] w (DoPost base wk o f' w)
section
variable [Avoid] {base wk g c : Nat} {o : Opn} {f : Fo}
theorem Wk.base_le {w : World} (h : Wk base wk g c o f w) (h0 : 0 < f.length) : base ≤ g ∧ g < w.heap.size := by
 obtain ⟨g', c', e, hb, hlt, _⟩ := h.own.form h0
 injection e with e
 injection e with e
 injection e with e
 subst e
 exact ⟨hb, hlt⟩
theorem Wk.put {w : World} (h : Wk base wk g c o f w) {i j : Nat} (hi : i < f.length) (hj : j < 6) {u : Value} {n : Nd} (hn : ∀ cs, nodeS (fun b => b ≠ g ∧ b ≠ wk ∧ Avoid.lo ≤ b) w cs f[i] → nodeS (fun b => b ≠ g ∧ b ≠ wk ∧ Avoid.lo ≤ b) w (cs.set j u) n) :
  Wk base wk g c o (f.set i n) (w.setCell ⟨g, i * 6 + j, none⟩ u) ∧ Below base w (w.setCell ⟨g, i * 6 + j, none⟩ u) := by
 have hb := (h.base_le (Nat.lt_of_le_of_lt (Nat.zero_le _) hi)).1
 have hs := h.ownx.store hi hj hn
 refine ⟨⟨?_, ?_, h.ne, ?_, h.lo⟩, (Below.refl _ _).setCell hb _⟩
 ·rw [List.length_set]
  exact (Below.heap_setCell _ _ _ _ (fun e => h.ne e.symm)).trans h.box
 ·rw [List.length_set]
  exact hs
 ·rw [List.length_set]
  exact h.big
end
theorem set_at {f : Fo} {i : Nat} (hi : i < f.length) (n : Nd) : at_ (f.set i n) (i : Int) = n := by
 rw [at_nat (by rw [List.length_set]; exact hi), List.getElem_set_self]
section
variable [Avoid] {base wk g c : Nat} {o : Opn} {f : Fo}
theorem node_grow (w : World) (h : Wk base wk g c o f w) (hi : isNode f o.id = true) : ∀ W, (W = w ∨ W = w.drew) → Calls Tryz.prog 173 #[.pointer (some ⟨wk, 0, none⟩)] W fun e w' => e = .returned (.pointer (some ⟨g, o.id.toNat * 6, none⟩)) ∧ Below w.heap.size w w' := by
 rintro W (rfl | rfl)
 ·exact (node_calls W h hi).mono (fun e w' ⟨h1, n, h2⟩ => ⟨h1, h2 ▸ drewN_below (Below.refl _ _) n⟩)
 ·exact (node_calls w.drew (h.below (Below.refl _ _).drew) hi).mono (fun e w' ⟨h1, n, h2⟩ => ⟨h1, h2 ▸ drewN_below (Below.refl _ _).drew n⟩)
theorem Wk.base_size {w : World} (h : Wk base wk g c o f w) (h0 : 0 < f.length) : base ≤ w.heap.size := by have := h.base_le h0; omega
end
theorem Below.cut {B b : Nat} {w w' : World} (h : Below B w w') (hb : b ≤ B) : Below b w w' := h.mono hb
section
variable [Avoid] {base wk g c : Nat} {o : Opn} {f : Fo}
theorem change_do (hi : isNode f o.id = true) (ht : o.text.size ≤ maxLen) : Do 187 base wk g c o f (f.set o.id.toNat { at_ f o.id with text := o.text }) := by
 intro w h
 obtain ⟨k, hk, hkl⟩ := node_nat hi
 have hcc := fun w' (hw' : Below w.heap.size w w') => cell_grow hw' h.cells.2.2.2.2.2.2
 have hn := node_grow w h hi
 have hput := fun w' (hw' : Below w.heap.size w w') => (h.below hw').put (j := 2) (u := .string o.text) (n := { f[k] with text := o.text }) hkl (by decide) (fun cs hcs => by
  obtain ⟨va, vk, rfl, r1, r2, r3, r4, r5, r6⟩ := hcs
  exact ⟨va, vk, rfl, r1, r2, r3, ht, r5, r6⟩)
 have hfree := fun w' (hw' : Below w.heap.size w w') => ((h.below hw').free (by omega)).1 (k * 6 + 2)
 obtain ⟨_, _, _, _, k2, _, _, _, _, _⟩ := h.node hi
 have hk2 := fun w' (hw' : Below w.heap.size w w') => cell_grow hw' k2
 have hbs := h.base_size (by omega)
 have hne := h.ne
 rw [hk] at hn hk2 ⊢
 rw [Int.toNat_natCast] at hk2 hn ⊢
 have e : at_ f (k : Int) = f[k] := at_nat hkl
 rw [e]
 have c6 := hcc w (Below.refl _ _)
 have kf := hfree w (Below.refl _ _)
 have k2 := hk2 w (Below.refl _ _)
 rw [e] at k2 hk2
 have Hn := Lib.hid hn; have Hput := Lib.hid hput; have Hcc := Lib.hid hcc; have Hfree := Lib.hid hfree; have Hk2 := Lib.hid hk2
 clear hn hput h hi e hcc hfree hk2
 go_enter Tryz.func187, Tryz.ntmps187
 go_region_held3 (fun w' => w'.cell? ⟨wk, 6, none⟩ = some (.string o.text))
  (first | exact c6 | exact d6 | (exact (OwnF.cell_same (Below.heap_setCell _ _ _ _ (fun e => hne e.symm)) _).trans (by assumption)) | go_keep)
  (first | (go_at_call 173; (first | (with_reducible refine (Hn.out _ (.inl rfl)).mono ?_) | (with_reducible refine (Hn.out _ (.inr rfl)).mono ?_)); rintro e w5 ⟨rfl, hb5⟩; have d6 := Hcc.out _ hb5; have d2 := Hk2.out _ hb5; have df := Hfree.out _ hb5; have Hb5 := Lib.hid hb5; clear hb5))
 refine bodyPost_ret (results_none rfl _ _ _) rfl ?_
 obtain ⟨p1, p2⟩ := Hput.out _ Hb5.out
 exact ⟨rfl, _, _, p1, (Hb5.out.mono hbs).trans p2⟩
end
section
variable {base wk g c : Nat} {o : Opn} {f : Fo}
theorem fresh_node {w : World} {S : Nat → Prop} {k : Int} (hk : (Lit.int .i64 k).wf = true) (hn : o.name.size ≤ maxLen) (ht : o.text.size ≤ maxLen) :
  nodeS S w [.int .i64 k, .string o.name, .string o.text, .slice none 0 0, .int .i64 (-1), .slice none 0 0] { kind := k, name := o.name, text := o.text, parent := -1 } :=
 ⟨_, _, rfl, RdS.nil, RdS.nil, hn, ht, hk, rfl⟩
end
section
variable [Avoid] {base wk g c : Nat} {o : Opn} {f : Fo}
set_option maxRecDepth 100000 in
set_option maxHeartbeats 4000000 in
theorem fresh_calls (k : Int) (hk : (Lit.int .i64 k).wf = true) (h0 : 0 < f.length) (hl60 : f.length ≤ 1000) (hn : o.name.size ≤ maxLen) (ht : o.text.size ≤ maxLen) (w : World) (h : Wk base wk g c o f w) (hbw : base ≤ wk) :
  Calls Tryz.prog 162 #[.pointer (some ⟨wk, 0, none⟩), .int .i64 k] w (DoPost base wk o (f ++ [{ kind := k, name := o.name, text := o.text, parent := -1 }]) w) := by
 obtain ⟨c0, c1, c2, c3, c4, c5, c6⟩ := h.cells
 have hl := h.big
 have hbs := h.base_size h0
 obtain ⟨xs, how, hnd⟩ := h.ownx
 obtain ⟨hgf, hwf, hgl, hwl⟩ := h.free h0
 have hgb := (h.base_le h0).1
 have hwf0 := hwf 0
 obtain ⟨i0, hi0, hz0, hz1, hz2⟩ := info_parts LKinds.info_node
 have Hnd := Lib.hid hnd; have How := Lib.hid how; have H := Lib.hid h
 have hne := h.ne
 have HK := Lib.hid hk; have HN := Lib.hid hn; have HT := Lib.hid ht
 clear h how hnd hgf hwf hk hn ht
 go_enter Tryz.func162, Tryz.ntmps162
 go_region_law (refine step_append_lies _ rfl (.tmp 8) (.tmp 21) 29 rfl base 50 i0 _ 6 96 Tryz.underlying29 hi0 hz0 hz1 hz2 rfl (by decide) (.slice (some ⟨g, 0, none⟩) f.length c) f.length xs (by simp [Act.eval, Act.put]) ((How.out.alloc _).drew) ⟨w.heap.size, 0, none⟩ 1 1 [.int .i64 k, .string o.name, .string o.text, .slice none 0 0, .int .i64 (-1), .slice none 0 0] (by simp [Act.eval, Act.put]) rfl (World.news_of_block (cs := #[.int .i64 k, .string o.name, .string o.text, .slice none 0 0, .int .i64 (-1), .slice none 0 0]) (t := 50) (fr := (0, 0)) (heap_alloc_new w _)) (by simp [Value.oneCell']) (by omega) (by simp only [maxLen]; omega) (by omega) (by simp; omega) (w.heap.size + 1) (by simp) ?_; intro g7 cap7 w7 hown7 hgrow7 hat7 hlt7; have e7 := (hgrow7.block wk (by simp; omega) (fun e => hne (by injection e with e; exact e.symm))).trans (heap_old H.out.box); have k7 : w7.cell? ⟨wk, 0, none⟩ = some (.slice (some ⟨g, 0, none⟩) f.length c) := (cell_of_row _ _ _ _ _ _ e7).trans rfl; have k7f := free_of e7 0; have E7 := Lib.hid e7; have Hown7 := Lib.hid hown7; have Hgrow7 := Lib.hid hgrow7; have Hat7 := Lib.hid hat7; clear e7 hown7 hgrow7 hat7)
 all_goals
  refine bodyPost_ret (results_none rfl _ _ _) rfl ?_
  have hO := OwnX.more (X := fun b => b ≠ wk ∧ Avoid.lo ≤ b) (f := f) (g := [{ kind := k, name := o.name, text := o.text, parent := -1 }]) ((How.out.alloc (.cells #[.int .i64 k, .string o.name, .string o.text, .slice none 0 0, .int .i64 (-1), .slice none 0 0] 50 (0, 0))).drew)
   (fun i hi => (Hnd.out i hi).keep (fun b _ hb => Below.heap_alloc _ _ _ hb) (by simp) (fun b hb _ => hb)) rfl (fun i hi => by
    obtain rfl : i = 0 := by simp at hi; omega
    exact fresh_node HK.out HN.out HT.out) Hown7.out Hgrow7.out (by
     rcases Hat7.out with e | e
     ·exact .inl e.symm
     ·exact .inr (by rw [e]; simp [Value.ownBlock]))
  have hg7 : g7 ≠ wk := by
   rcases Hat7.out with e | e
   ·intro e2; apply hne; simp [Value.ownBlock] at e; omega
   ·omega
  have hB : Below base w w7 := by
   have b1 := ((Below.refl base w).alloc hbs (.cells #[.int .i64 k, .string o.name, .string o.text, .slice none 0 0, .int .i64 (-1), .slice none 0 0] 50 (0, 0))).drew
   exact b1.trans ((Off.grown (Y := fun b => base ≤ b) Hgrow7.out (fun r hr => by simp only [Value.ownBlock] at hr; injection hr with hr; omega)).toBelow (by simp; omega) (fun b hb => hb))
  refine ⟨rfl, g7, cap7, ⟨?_, ?_, hg7, ?_, H.out.lo⟩, hB.setCell hbw _⟩
  ·rw [List.length_append]
   exact (Repl.setCell_row E7.out).trans rfl
  ·rw [List.length_append]
   exact hO.keep (fun b hb hx => Below.heap_setCell _ _ _ _ (by
    rcases hx with h | h
    ·exact h.1
    ·intro e; apply hg7; simp only [Value.ownBlock] at h; injection h with h; exact h.trans e)) (by simp [World.setCell])
  ·rw [List.length_append]
   obtain ⟨_, _, e, _, _, _, h1, h2⟩ := hO.own.form (by simp)
   injection e with e1 e2 e3
   subst e3
   rw [List.length_append] at h1
   exact ⟨h1, by simp only [maxLen] at h2; omega⟩
theorem fresh1_do (h0 : 0 < f.length) (hl60 : f.length ≤ 1000) (hn : o.name.size ≤ maxLen) (ht : o.text.size ≤ maxLen) (hbw : base ≤ wk) (hk : o.kind = 1) : Do 161 base wk g c o f (freshF f o) := by
 intro w h
 have hf := fresh_calls 1 rfl h0 hl60 hn ht w h hbw
 unfold freshF
 rw [hk]
 have Hf := Lib.hid hf
 clear hf h
 go_enter Tryz.func161, Tryz.ntmps161
 go_wp2_with (go_at_call 162; (with_reducible refine (Hf.out).mono ?_); rintro e w5 ⟨rfl, hp⟩)
 first | go_end0 | (simp only [Exit.inBlock, Exit.then]; refine bodyPost_ret (results_none rfl _ _ _) rfl ?_) | refine bodyPost_ret (results_none rfl _ _ _) rfl ?_
 exact ⟨rfl, hp⟩
theorem fresh2_do (h0 : 0 < f.length) (hl60 : f.length ≤ 1000) (hn : o.name.size ≤ maxLen) (ht : o.text.size ≤ maxLen) (hbw : base ≤ wk) (hk : o.kind = 2) : Do 164 base wk g c o f (freshF f o) := by
 intro w h
 have hf := fresh_calls 2 rfl h0 hl60 hn ht w h hbw
 unfold freshF
 rw [hk]
 have Hf := Lib.hid hf
 clear hf h
 go_enter Tryz.func164, Tryz.ntmps164
 go_wp2_with (go_at_call 162; (with_reducible refine (Hf.out).mono ?_); rintro e w5 ⟨rfl, hp⟩)
 first | go_end0 | (simp only [Exit.inBlock, Exit.then]; refine bodyPost_ret (results_none rfl _ _ _) rfl ?_) | refine bodyPost_ret (results_none rfl _ _ _) rfl ?_
 exact ⟨rfl, hp⟩
theorem fresh3_do (h0 : 0 < f.length) (hl60 : f.length ≤ 1000) (hn : o.name.size ≤ maxLen) (ht : o.text.size ≤ maxLen) (hbw : base ≤ wk) (hk : o.kind = 3) : Do 165 base wk g c o f (freshF f o) := by
 intro w h
 have hf := fresh_calls 3 rfl h0 hl60 hn ht w h hbw
 unfold freshF
 rw [hk]
 have Hf := Lib.hid hf
 clear hf h
 go_enter Tryz.func165, Tryz.ntmps165
 go_wp2_with (go_at_call 162; (with_reducible refine (Hf.out).mono ?_); rintro e w5 ⟨rfl, hp⟩)
 first | go_end0 | (simp only [Exit.inBlock, Exit.then]; refine bodyPost_ret (results_none rfl _ _ _) rfl ?_) | refine bodyPost_ret (results_none rfl _ _ _) rfl ?_
 exact ⟨rfl, hp⟩
end
end Go.Proofs.YtmbhkkophkccbaaGreat.Work
end
section
namespace Go.Proofs
open Go.Shelf
def Tryz.laysNm215_ren : Go.Shelf.Ren := ⟨fun | 15 => 134 | n => n, fun | 22 => 34 | 3 => 3 | 4 => 4 | n => n, fun | n => n⟩
theorem Tryz.laysNm215 : Go.Proofs.Lays2.n15 Tryz.prog Tryz.laysNm215_ren := {
 mixed := by kernel_rfl
 f15 := Tryz.func134.trans (congrArg some (by kernel_rfl))
 t3 := Tryz.underlying3
 a3 := Tryz.isAgg3
 z3 := Tryz.sizeOf3
 v3 := Tryz.zeroValue3
 t4 := Tryz.underlying4
 a4 := Tryz.isAgg4
 z4 := Tryz.sizeOf4
 v4 := Tryz.zeroValue4
 t22 := Tryz.underlying34
 a22 := Tryz.isAgg34
 z22 := Tryz.sizeOf34
 v22 := Tryz.zeroValue34
 i3 := by kernel_rfl }
open Go.RowKit Go.Lib in
theorem Tryz.slices_Clone_int (b off n c : Nat) (zs : List Int) (w : World) (hz : n ≤ zs.length) (hbig : n * 8 ≤ 140737488355328) (hc : ∀ j, j < zs.length → w.cell? ⟨b, off + j, none⟩ = some (.int .i64 (zs.getD j 0))) :
  Calls Tryz.prog 134 #[.slice (some ⟨b, off, none⟩) n c] w fun e w' => ∃ v', e = .returned v' ∧ w'.ownsRow w.heap.size 3 1 v' n ((zs.take n).map (Value.int .i64)) ∧ v' ≠ .slice none 0 0 ∧ Below w.heap.size w w' := Any.slices_Clone_int Tryz.laysNm215 b off n c zs w hz hbig hc
open Go.RowKit Go.Lib in
theorem Tryz.slices_Clone_int_nil (n c : Nat) (w : World) :
  Calls Tryz.prog 134 #[.slice none n c] w fun e w' => e = .returned (.slice none 0 0) ∧ w' = w := Any.slices_Clone_int_nil Tryz.laysNm215 n c w
open Go.RowKit Go.Lib in
theorem Tryz.slices_Clone_int_zero (a : Addr) (c : Nat) (w : World) :
  Calls Tryz.prog 134 #[.slice (some a) 0 c] w fun e w' => ∃ v', e = .returned v' ∧ w'.ownsRow w.heap.size 3 1 v' 0 [] ∧ v' ≠ .slice none 0 0 ∧ Below w.heap.size w w' := Any.slices_Clone_int_zero Tryz.laysNm215 a c w
end Go.Proofs
end
section
namespace Go.Proofs
open Go.Shelf
def Tryz.laysDf_ren : Go.Shelf.Ren := ⟨fun | 10 => 212 | 6 => 47 | n => n, fun | 22 => 34 | 23 => 3 | 25 => 116 | 3 => 3 | 4 => 4 | 0 => 0 | n => n, fun | n => n⟩
theorem Tryz.laysDf : Go.Proofs.SlLaysH.n10 Tryz.prog Tryz.laysDf_ren := {
 mixed := by kernel_rfl
 f6 := ⟨Tryz.f47.name, by decide, Tryz.func47.trans (congrArg some (by kernel_rfl))⟩
 f10 := ⟨Tryz.f212.name, by decide, Tryz.func212.trans (congrArg some (by kernel_rfl))⟩
 t0 := Tryz.underlying0
 a0 := Tryz.isAgg0
 z0 := Tryz.sizeOf0
 v0 := Tryz.zeroValue0
 t3 := Tryz.underlying3
 a3 := Tryz.isAgg3
 z3 := Tryz.sizeOf3
 v3 := Tryz.zeroValue3
 t4 := Tryz.underlying4
 a4 := Tryz.isAgg4
 z4 := Tryz.sizeOf4
 v4 := Tryz.zeroValue4
 t22 := Tryz.underlying34
 a22 := Tryz.isAgg34
 z22 := Tryz.sizeOf34
 v22 := Tryz.zeroValue34
 a23 := Tryz.isAgg3
 z23 := Tryz.sizeOf3
 t25 := Tryz.underlying116
 a25 := Tryz.isAgg116
 z25 := Tryz.sizeOf116
 v25 := Tryz.zeroValue116 }
def Tryz.laysClA_ren : Go.Shelf.Ren := ⟨fun | 41 => 184 | n => n, fun | 22 => 48 | 23 => 112 | 4 => 4 | n => n, fun | n => n⟩
theorem Tryz.laysClA : Go.Proofs.SlLaysE0.n41 Tryz.prog Tryz.laysClA_ren := {
 mixed := by kernel_rfl
 f41 := ⟨Tryz.f184.name, by decide, Tryz.func184.trans (congrArg some (by kernel_rfl))⟩
 t4 := Tryz.underlying4
 a4 := Tryz.isAgg4
 z4 := Tryz.sizeOf4
 v4 := Tryz.zeroValue4
 t22 := Tryz.underlying48
 a22 := Tryz.isAgg48
 z22 := Tryz.sizeOf48
 v22 := Tryz.zeroValue48 }
def Tryz.laysClF_ren : Go.Shelf.Ren := ⟨fun | 41 => 108 | n => n, fun | 22 => 29 | 23 => 50 | 4 => 4 | n => n, fun | n => n⟩
theorem Tryz.laysClF : Go.Proofs.SlLaysE0.n41 Tryz.prog Tryz.laysClF_ren := {
 mixed := by kernel_rfl
 f41 := ⟨Tryz.f108.name, by decide, Tryz.func108.trans (congrArg some (by kernel_rfl))⟩
 t4 := Tryz.underlying4
 a4 := Tryz.isAgg4
 z4 := Tryz.sizeOf4
 v4 := Tryz.zeroValue4
 t22 := Tryz.underlying29
 a22 := Tryz.isAgg29
 z22 := Tryz.sizeOf29
 v22 := Tryz.zeroValue29 }
end Go.Proofs
end
section
namespace Go.Proofs.YtmbhkkophkccbaaGreat.Work
open Go Go.RowKit Go.Proofs.YtmbhkkophkccbaaGreat.Seq WS FS Mem Rd Shapes Word FFam OwnF
set_option linter.unusedVariables false
set_option linter.unusedSimpArgs false

theorem take1_calls (w : World) (bx wk : Nat) (x k : Int) (hb : w.cell? ⟨bx, 0, none⟩ = some (.pointer (some ⟨wk, 0, none⟩))) (h2 : w.cell? ⟨wk, 2, none⟩ = some (.int .i64 x)) :
  Calls Tryz.prog 213 #[.int .i64 k, .pointer (some ⟨bx, 0, none⟩)] w fun e w' => e = .returned (.bool (k == x)) ∧ ∃ q, w' = w.drewN q := by
 go_enter Tryz.func213, Tryz.ntmps213
 go_wp2_with fail
 go_ret
 exact ⟨rfl, 0, rfl⟩
theorem putRow_below {enc : Int → Value} {w : World} {B g off q : Nat} {d : Array Int} (hB : B ≤ g) (hs : B ≤ w.heap.size) : Below B w (Sort.putRow enc (Sort.ahead w q) g off d) := by
 refine ⟨rfl, rfl, rfl, by simp [Sort.putRow, Sort.mapBlock, Sort.ahead]; try omega, fun j hj => ?_⟩
 simp only [Sort.putRow, Sort.mapBlock, Sort.ahead]
 rw [Array.getElem?_modify, if_neg (by omega)]
theorem deleteFunc_calls (w : World) (B bx wk : Nat) (x : Int) (v : Value) (l : List Int) (h : w.ownsRow B 3 1 v l.length (l.map (Value.int .i64))) (h0 : 0 < l.length) (hl : l.length ≤ 1000) (hw : ∀ y ∈ l, (Lit.int .i64 y).wf = true) (hbB : bx < B) (hwB : wk < B)
  (hb : w.cell? ⟨bx, 0, none⟩ = some (.pointer (some ⟨wk, 0, none⟩))) (h2 : w.cell? ⟨wk, 2, none⟩ = some (.int .i64 x)) (hBs : B ≤ w.heap.size) :
  Calls Tryz.prog 212 #[v, .func (.func 213) #[] #[.pointer (some ⟨bx, 0, none⟩)]] w fun e w' => ∃ v', e = .returned v' ∧ RdS intS 1 (fun b => B ≤ b) w' v' (l.filter (· != x)) ∧ Below B w w' := by
 have hlt := h.lt
 have hcells := fun (g : Nat) (e : v.ownBlock = some g) => h.cells (g := g) e
 rcases h.2 with ⟨_, hn⟩ | ⟨g, cap, cur, rfl, hgb, hgh, hgc, hgm, hcs, _⟩
 ·omega
 have hg := (hlt g rfl).1
 have hgs := (hlt g rfl).2
 have hH : Sort.Holds (Value.int .i64) w g 0 l.toArray := fun j hj => by
  have hj' : j < l.length := by simpa using hj
  refine ⟨?_, free_of hgh _⟩
  have := hcells g rfl j (.int .i64 l[j]) (by simp [hj'])
  rw [Addr.add_lit] at this
  rw [this]
  simp [hj']
 have eg : ∀ args w, (callFunc 213 args).run Tryz.prog w = .ok (.enter 213 args) w := enters_of Tryz.func213 (by kernel_rfl) rfl
 have hp : PredAt Tryz.prog 213 #[.pointer (some ⟨bx, 0, none⟩)] (Value.int .i64) (fun k => k == x) w := fun W k hW => take1_calls W bx wk x k (cell_grow hW hb) (cell_grow hW h2)
 have hpo : PredOver Tryz.prog 213 #[.pointer (some ⟨bx, 0, none⟩)] (Value.int .i64) (fun k => k == x) g 0 l.toArray.size w := fun n os dk k _ => by
  have hW : ∀ (a : Nat) (o : Nat) (u : Value), a < B → w.cell? ⟨a, o, none⟩ = some u → (sortWorld (Value.int .i64) w g 0 n dk os).cell? ⟨a, o, none⟩ = some u := fun a o u ha hu => by
   unfold sortWorld
   rw [Sort.cell?_grow _ _ _ (by show a < (Sort.putRow _ _ _ _ _).heap.size; rw [Sort.size_putRow]; show a < w.heap.size; omega), Sort.cell?_putRow_other _ _ g 0 _ _ (Or.inl (by show a ≠ g; omega))]
   exact hu
  exact take1_calls _ bx wk x k (hW bx 0 _ hbB hb) (hW wk 2 _ hwB h2)
 have hcon := AnyE.slices_DeleteFunc Tryz.laysDf (Value.int .i64) (fun _ => rfl) (fun k => k == x) 213 #[.pointer (some ⟨bx, 0, none⟩)] eg 0 Tryz.zeroValue3 g 0 cap l.toArray w hp hpo hH (by simp; omega) (by simpa using hgc)
 have he : (l.toArray.toList.filter fun k => !(k == x)) = l.filter (· != x) := rfl
 rw [he] at hcon
 have hsz : l.toArray.size = l.length := by simp
 rw [hsz] at hcon
 refine hcon.mono ?_
 rintro e w' ⟨rfl, q, rfl⟩
 have hfl : (l.filter (· != x)).length ≤ l.length := List.length_filter_le _ _
 refine ⟨_, rfl, ⟨_, _, rfl, by omega, hgm, fun h1 => ⟨g, 0, rfl, hg, ?_, fun i hi => ⟨[.int .i64 (l.filter (· != x))[i]], rfl, fun j u hj => ?_, rfl, hw _ (List.mem_filter.1 (List.getElem_mem hi)).1⟩⟩⟩, putRow_below hg hBs⟩
 ·rw [Sort.size_putRow]; exact hgs
 ·have hj0 : j = 0 := by have := (List.getElem?_eq_some_iff.1 hj).1; simp at this; omega
  subst hj0
  simp at hj
  subst hj
  have hHa : Sort.Holds (Value.int .i64) (Sort.ahead w q) g 0 l.toArray := hH
  have := Sort.cell?_putRow (Value.int .i64) (Sort.ahead w q) g 0 l.toArray ((l.filter (· != x)) ++ List.replicate (l.length - (l.filter (· != x)).length) 0).toArray hHa (by simp; omega) i (by simp; omega)
  rw [show 0 + i * 1 + 0 = 0 + i by omega, this]
  simp only [List.getElem!_toArray, List.getElem!_eq_getElem?_getD]
  rw [List.getElem?_append_left hi, List.getElem?_eq_getElem hi]
  rfl
theorem ints_cells {B : Nat} {w : World} {b : Nat} {l : List Int} (hc : ∀ j (hj : j < l.length), w.cell? ⟨b, B + j, none⟩ = some (.int .i64 l[j])) : ∀ j, j < l.length → w.cell? ⟨b, B + j, none⟩ = some (.int .i64 (l.getD j 0)) := fun j hj => by
 rw [hc j hj, List.getD_eq_getElem?_getD, List.getElem?_eq_getElem hj]
 rfl
theorem cloneI_calls (w : World) (v : Value) (l : List Int) (h : RdL (intE .i64) 1 w.heap.size w v l) (hl : l.length ≤ 1000) :
  Calls Tryz.prog 134 #[v] w fun e w' => ∃ v', e = .returned v' ∧ w'.ownsRow w.heap.size 3 1 v' l.length (l.map (Value.int .i64)) ∧ Below w.heap.size w w' := by
 obtain ⟨A, c, rfl, hc, hm, hr⟩ := h
 cases A with
 | none =>
  have hl0 : l = [] := by
   cases l with
   | nil => rfl
   | cons y r => obtain ⟨b, o, e, _⟩ := hr (by simp); cases e
  subst hl0
  refine (Tryz.slices_Clone_int_nil _ _ w).mono ?_
  rintro e w' ⟨rfl, rfl⟩
  exact ⟨_, rfl, World.ownsRow_nil _ _ _ _, Below.refl _ _⟩
 | some a =>
  cases l with
  | nil =>
   refine (Tryz.slices_Clone_int_zero a c w).mono ?_
   rintro e w' ⟨v', rfl, h1, _, h2⟩
   exact ⟨v', rfl, h1, h2⟩
  | cons y r =>
   obtain ⟨b, o, e, hb, hcell⟩ := hr (by simp)
   injection e with e
   subst e
   refine (Tryz.slices_Clone_int b o (y :: r).length c (y :: r) w (Nat.le_refl _) (by omega) (ints_cells (fun j hj => ?_))).mono ?_
   ·obtain ⟨cs, h1, h2, h3, _⟩ := hcell j hj
    have := h2 0 (.int .i64 (y :: r)[j]) (by rw [h3]; rfl)
    rwa [Nat.mul_one, Nat.add_zero] at this
   ·rintro e w' ⟨v', rfl, h1, _, h2⟩
    rw [List.take_length] at h1
    exact ⟨v', rfl, h1, h2⟩
end Go.Proofs.YtmbhkkophkccbaaGreat.Work
end
