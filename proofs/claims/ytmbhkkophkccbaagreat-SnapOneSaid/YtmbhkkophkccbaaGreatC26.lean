import Derived.Deep.RegionHeld3
import Derived.Test.YtmbhkkophkccbaaGreatC25
section
namespace Go.Proofs.YtmbhkkophkccbaaGreat.Pr
open Go Go.RowKit Go.Proofs.YtmbhkkophkccbaaGreat.Seq WS FS Mem Rd Shapes Build Repl ReplB ReplR ReplC FFam
set_option linter.unusedVariables false
set_option linter.unusedSimpArgs false

def St (L : Lay) (w0 : World) (v0 : Value) (l : List UInt8) (g : Nat) (o : Obj) (w : World) : Prop :=
 ∃ v Fs, PInv L l v Fs w ∧ Off (YP L v0) w0 w ∧ Grew w0 v0 v ∧ w.heap[g]? = some o ∧ Safe L v g
section
variable {L : Lay} {w0 w : World} {v0 : Value} {l : List UInt8} {g : Nat} {o : Obj}
theorem St.new {v : Value} {Fs : Nat → Prop} (ok : L.OK) (h : PInv L l v Fs w) (o : Obj) : St L (w.alloc o) v l w.heap.size o (w.alloc o) :=
 ⟨v, Fs, h.alloc ok _, Off.refl _ _, Grew.refl _ _, World.alloc_heap_new _ _, h.fresh ok (Nat.le_refl _)⟩
theorem St.drew (ok : L.OK) (h : St L w0 v0 l g o w) : St L w0 v0 l g o w.drew := by
 obtain ⟨v, Fs, h1, h2, h3, h4, h5⟩ := h
 exact ⟨v, Fs, h1.drew ok, h2.trans (Off.drew _ _), h3, h4, h5⟩
theorem St.alloc (ok : L.OK) (h : St L w0 v0 l g o w) (o' : Obj) : St L w0 v0 l w.heap.size o' (w.alloc o') := by
 obtain ⟨v, Fs, h1, h2, h3, h4, h5⟩ := h
 exact ⟨v, Fs, h1.alloc ok _, h2.trans (Off.alloc _ _ _), h3, World.alloc_heap_new _ _, h1.fresh ok (Nat.le_refl _)⟩
theorem St.box (h : St L w0 v0 l g o w) : w.heap[g]? = some o := by obtain ⟨v, Fs, h1, h2, h3, h4, h5⟩ := h; exact h4
theorem St.back {g' : Nat} {o' : Obj} (h : St L w0 v0 l g o w) (h0 : w0.heap[g']? = some o') (hs : Safe L v0 g') : St L w0 v0 l g' o' w := by
 obtain ⟨v, Fs, h1, h2, h3, h4, h5⟩ := h
 exact ⟨v, Fs, h1, h2, h3, h2.keep h0 hs, hs.step h3 (lt_heap h0)⟩
theorem St.safe0 (h : St L w0 v0 l g o w0) : Safe L v0 g := by
 obtain ⟨v, Fs, h1, h2, h3, h4, h5⟩ := h
 intro hy
 rcases hy with hy | hy | hy | hy
 ·exact h5 (.inl hy)
 ·exact h5 (.inr (.inl hy))
 ·exact h5 (.inr (.inr (.inl hy)))
 ·rcases h3 with h3 | ⟨x, g1, g2⟩
  ·exact h5 (.inr (.inr (.inr (by rw [h3]; exact hy))))
  ·have := (h1.bd.row.lt x g1).2
   omega
theorem St.cells (h : St L w0 v0 l g o w) : w.cell? ⟨L.bt, 0, none⟩ = some (.pointer (some ⟨L.rt, 0, none⟩)) ∧ w.cell? ⟨L.bv, 0, none⟩ = some (.pointer (some ⟨L.rv, 0, none⟩)) ∧
  w.cell? ⟨L.bk, 0, none⟩ = some (.func (.func 201) #[] #[.pointer (some ⟨L.bp, 0, none⟩), .pointer (some ⟨L.bF, 0, none⟩)]) := by
 obtain ⟨v, Fs, h1, h2, h3, h4, h5⟩ := h
 exact ⟨cell_of h1.vt, cell_of h1.vv, cell_of h1.vk⟩
theorem St.write (ok : L.OK) (h : St L w0 v0 l g o w) (s : ByteArray) (hl : l.length + s.size ≤ 1000000000) :
  Calls Tryz.prog 136 #[.pointer (some ⟨L.b, 0, none⟩), .string s] w fun e w' => e = .returned (.tuple #[.int .i64 s.size, .nilIface]) ∧ St L w0 v0 (l ++ s.data.toList) g o w' := by
 obtain ⟨v, Fs, h1, h2, h3, h4, h5⟩ := h
 refine (write_P L ok l v Fs w h1 s (by omega)).mono ?_
 rintro e w' ⟨rfl, v', Fs', k1, k2, k3⟩
 exact ⟨rfl, v', Fs', k1, YP.trans h2 h3 k2, h3.trans k3 h2.size, k2.keep h4 h5, h5.step k3 (lt_heap h4)⟩
theorem St.rep (ok : L.OK) (q : Bool) (r : Nat) (hr : r = if q then L.rv else L.rt) (h : St L w0 v0 l g o w) (s : ByteArray) (hs : s.size ≤ 1000) :
  Calls Tryz.prog 203 #[.pointer (some ⟨r, 0, none⟩), .string s] w fun e w' => e = .returned (.string ⟨(esc q s.data.toList).toArray⟩) ∧ St L w0 v0 l g o w' := by
 obtain ⟨v, Fs, h1, h2, h3, h4, h5⟩ := h
 refine (rep_P L ok q r hr l v Fs w h1 s hs).mono ?_
 rintro e w' ⟨rfl, Fs', k1, k2⟩
 exact ⟨rfl, v, Fs', k1, YP.trans h2 h3 k2, h3, k2.keep h4 h5, h5⟩
theorem St.kids (ok : L.OK) (i : Int) (hk : ∀ k ∈ (at_ L.f i).kids, isNode L.f k = true ∧ PutOK L k) (h : St L w0 v0 l g o w) {Aa : Option Addr} {ca : Nat} {Ak : Option Addr} {ck : Nat}
  (hrk : RdL (intE .i64) 1 L.B w (.slice Ak (at_ L.f i).kids.length ck) (at_ L.f i).kids) (hl : l.length + ((at_ L.f i).kids.flatMap (printL L.f)).length ≤ 1000000000) :
  Calls Tryz.prog 201 #[nodeV (at_ L.f i) Aa ca Ak ck, .pointer (some ⟨L.bp, 0, none⟩), .pointer (some ⟨L.bF, 0, none⟩)] w fun e w' => e = .returned (.tuple #[]) ∧ St L w0 v0 (l ++ (at_ L.f i).kids.flatMap (printL L.f)) g o w' := by
 obtain ⟨v, Fs, h1, h2, h3, h4, h5⟩ := h
 refine (kids_calls L ok i hk l v Fs w Aa ca Ak ck h1 hrk hl).mono ?_
 rintro e w' ⟨rfl, v', Fs', k1, k2, k3⟩
 exact ⟨rfl, v', Fs', k1, YP.trans h2 h3 k2, h3.trans k3 h2.size, k2.keep h4 h5, h5.step k3 (lt_heap h4)⟩
theorem St.rd {α : Type} {E : Elem α} {sz : Nat} {u : Value} {xs : List α} (hE : E.Keeps) (ok : L.OK) (hlo : ∀ k, YP L v0 k → L.B ≤ k) (hB : L.B ≤ w0.heap.size) (h : St L w0 v0 l g o w) (hr : RdL E sz L.B w0 u xs) : RdL E sz L.B w u xs := by
 obtain ⟨v, Fs, h1, h2, h3, h4, h5⟩ := h
 exact hr.keep hE (h2.toBelow hB hlo) (Nat.le_refl _)
theorem St.eq {l' : List UInt8} (h : St L w0 v0 l g o w) (e : l = l') : St L w0 v0 l' g o w := e ▸ h
theorem St.node {x0 x1 x2 x3 x4 x5 : Value} {T : TypeId} (h : St L w0 v0 l g (.cells #[x0, x1, x2, x3, x4, x5] T) w) : w.cell? ⟨g, 0, none⟩ = some x0 ∧ w.cell? ⟨g, 1, none⟩ = some x1 ∧ w.cell? ⟨g, 2, none⟩ = some x2 ∧ w.cell? ⟨g, 3, none⟩ = some x3 ∧ w.cell? ⟨g, 4, none⟩ = some x4 ∧ w.cell? ⟨g, 5, none⟩ = some x5 :=
 have hb := h.box
 ⟨(cell_of_row _ _ _ _ _ _ hb).trans rfl, (cell_of_row _ _ _ _ _ _ hb).trans rfl, (cell_of_row _ _ _ _ _ _ hb).trans rfl, (cell_of_row _ _ _ _ _ _ hb).trans rfl, (cell_of_row _ _ _ _ _ _ hb).trans rfl, (cell_of_row _ _ _ _ _ _ hb).trans rfl⟩
theorem St.pair {x0 x1 : Value} {T : TypeId} (h : St L w0 v0 l g (.cells #[x0, x1] T) w) : w.cell? ⟨g, 0, none⟩ = some x0 ∧ w.cell? ⟨g, 1, none⟩ = some x1 :=
 have hb := h.box
 ⟨(cell_of_row _ _ _ _ _ _ hb).trans rfl, (cell_of_row _ _ _ _ _ _ hb).trans rfl⟩
theorem St.done {wp : World} {p q : List UInt8} (h : St L w0 v0 (q ++ p) g o w) (ho : Off (YP L v0) wp w0) (hs : wp.heap.size ≤ w0.heap.size) : DonePr L q p v0 wp (.returned (.tuple #[])) w := by
 obtain ⟨v, Fs, h1, h2, h3, h4, h5⟩ := h
 exact ⟨rfl, v, Fs, h1, ho.trans h2, (Grew.refl _ _).trans h3 hs⟩
end
theorem app_bytes (a b : ByteArray) : (a ++ b).data.toList = a.data.toList ++ b.data.toList := by simp
theorem app_size (a b : ByteArray) : (a ++ b).size = a.size + b.size := by simp
theorem size_lit (l : Array UInt8) : (⟨l⟩ : ByteArray).size = l.size := rfl
theorem size_len (l : List UInt8) : (⟨l.toArray⟩ : ByteArray).size = l.length := rfl
theorem go_sz1 {l : List UInt8} {nm : ByteArray} (h : l.length + nm.size + 1 ≤ 1000000000) : l.length + ((⟨#[60]⟩ : ByteArray) ++ nm).size ≤ 1000000000 := by
 rw [app_size, show (⟨#[60]⟩ : ByteArray).size = 1 from rfl]; omega
theorem lit2 (a b : UInt8) : (⟨#[a, b]⟩ : ByteArray).size = 2 := rfl
theorem lit1 (a : UInt8) : (⟨#[a]⟩ : ByteArray).size = 1 := rfl
theorem go_sz5 {l e : List UInt8} {an : ByteArray} (h : l.length + (an.size + e.length + 4) ≤ 1000000000) : l.length + ((⟨#[32]⟩ : ByteArray) ++ an ++ ⟨#[61, 34]⟩ ++ ⟨e.toArray⟩ ++ ⟨#[34]⟩).size ≤ 1000000000 := by
 have h1 : (⟨#[32]⟩ : ByteArray).size = 1 := rfl
 have h2 : (⟨#[34]⟩ : ByteArray).size = 1 := rfl
 have h3 : (⟨#[61, 34]⟩ : ByteArray).size = 2 := rfl
 have h4 := size_len e
 rw [app_size, app_size, app_size, app_size]; omega
theorem go_sz6 {l k : List UInt8} {n : Nat} (h : l.length + k.length + n + 4 ≤ 1000000000) : l.length + (⟨#[62]⟩ : ByteArray).size ≤ 1000000000 := by
 have h1 : (⟨#[62]⟩ : ByteArray).size = 1 := rfl
 omega
theorem go_sz7 {l k : List UInt8} {n : Nat} (h : l.length + k.length + n + 4 ≤ 1000000000) : (l ++ (⟨#[62]⟩ : ByteArray).data.toList).length + k.length ≤ 1000000000 := by
 rw [List.length_append]
 have h1 : (⟨#[62]⟩ : ByteArray).data.toList.length = 1 := rfl
 omega
theorem go_sz8 {l k : List UInt8} {nm : ByteArray} (h : l.length + k.length + nm.size + 4 ≤ 1000000000) : (l ++ (⟨#[62]⟩ : ByteArray).data.toList ++ k).length + ((⟨#[60, 47]⟩ : ByteArray) ++ nm ++ ⟨#[62]⟩).size ≤ 1000000000 := by
 have h1 : (⟨#[62]⟩ : ByteArray).data.toList.length = 1 := rfl
 have h2 : (⟨#[62]⟩ : ByteArray).size = 1 := rfl
 have h3 : (⟨#[60, 47]⟩ : ByteArray).size = 2 := rfl
 rw [List.length_append, List.length_append, app_size, app_size]
 omega
theorem cat3 {an : ByteArray} {e : List UInt8} (h : an.size ≤ 20) (h2 : e.length ≤ 360) : ((⟨#[32]⟩ : ByteArray) ++ an ++ ⟨#[61, 34]⟩).size + (⟨e.toArray⟩ : ByteArray).size ≤ 9223372036854775807 := by
 have h1 : (⟨#[32]⟩ : ByteArray).size = 1 := rfl
 have h3 : (⟨#[61, 34]⟩ : ByteArray).size = 2 := rfl
 have h4 := size_len e
 rw [app_size, app_size]; omega
theorem cat4 {an : ByteArray} {e : List UInt8} (h : an.size ≤ 20) (h2 : e.length ≤ 360) : ((⟨#[32]⟩ : ByteArray) ++ an ++ ⟨#[61, 34]⟩ ++ ⟨e.toArray⟩).size + (⟨#[34]⟩ : ByteArray).size ≤ 9223372036854775807 := by
 have h1 : (⟨#[32]⟩ : ByteArray).size = 1 := rfl
 have h3 : (⟨#[61, 34]⟩ : ByteArray).size = 2 := rfl
 have h5 : (⟨#[34]⟩ : ByteArray).size = 1 := rfl
 have h4 := size_len e
 rw [app_size, app_size, app_size]; omega
theorem go_sz3 {l e : List UInt8} (h : l.length + e.length + 4 ≤ 1000000000) : l.length + ((⟨#[60, 33]⟩ : ByteArray) ++ ⟨e.toArray⟩ ++ ⟨#[33, 62]⟩).size ≤ 1000000000 := by
 rw [app_size, app_size, lit2, lit2, size_len]; omega
set_option maxRecDepth 100000 in
set_option maxHeartbeats 4000000 in
theorem put_step (L : Lay) (ok : L.OK) (hm : mayB L.f = true) (i : Int) (hi : isNode L.f i = true) (hk : ∀ k ∈ (at_ L.f i).kids, isNode L.f k = true ∧ PutOK L k) : PutOK L i := by
 intro l v Fs w Aa ca Ak ck h hra hrk hl
 have hpe := printL_eq (may_family hm) (may_climbs hm) hi
 have hpl := may_plain hm hi
 rw [hpe] at hl ⊢
 have hkc := fun g o w' w0 v0 l' (hs : St L w0 v0 l' g o w') hr hl => St.kids (Aa := Aa) (ca := ca) (Ak := Ak) (ck := ck) ok i hk hs hr hl
 obtain ⟨KL, hKL⟩ : ∃ KL, KL = (at_ L.f i).kids.flatMap (printL L.f) := ⟨_, rfl⟩
 rw [← hKL] at hl hkc
 rw [← hKL]
 have hlo := h.lo ok
 have hB : L.B ≤ w.heap.size := by have := h.sz; have := ok.lt.1; have := ok.ge.1; omega
 generalize at_ L.f i = n at *
 obtain ⟨kd, nm, tx, ats, par, kks⟩ := n
 have hla := hra.len
 have hlk := hrk.len
 simp only [maxLen] at hla hlk
 unfold nodeV at hkc ⊢
 simp only at *
 have hS0 := St.new ok h (.cells #[.int .i64 kd, .string nm, .string tx, .slice Aa ats.length ca, .int .i64 par, .slice Ak kks.length ck] 50)
 obtain ⟨W0, hW0⟩ : ∃ W0, w.alloc (.cells #[.int .i64 kd, .string nm, .string tx, .slice Aa ats.length ca, .int .i64 par, .slice Ak kks.length ck] 50) = W0 := ⟨_, rfl⟩
 have ho0 : Off (YP L v) w W0 := by rw [← hW0]; exact Off.alloc _ _ _
 rw [hW0] at hS0
 have hra0 := rd_off attrE_keeps h ok hra ho0
 have hrk0 := rd_off (intE_keeps _) h ok hrk ho0
 have hcs := hS0.cells
 obtain ⟨hc1, hc2, hc3⟩ := hcs
 have hbx := hS0.box
 have hx0 : W0.cell? ⟨w.heap.size, 0, none⟩ = some (.int .i64 kd) := (cell_of_row _ _ _ _ _ _ hbx).trans rfl
 have hx1 : W0.cell? ⟨w.heap.size, 1, none⟩ = some (.string nm) := (cell_of_row _ _ _ _ _ _ hbx).trans rfl
 have hx2 : W0.cell? ⟨w.heap.size, 2, none⟩ = some (.string tx) := (cell_of_row _ _ _ _ _ _ hbx).trans rfl
 have hx3 : W0.cell? ⟨w.heap.size, 3, none⟩ = some (.slice Aa ats.length ca) := (cell_of_row _ _ _ _ _ _ hbx).trans rfl
 have hx4 : W0.cell? ⟨w.heap.size, 4, none⟩ = some (.int .i64 par) := (cell_of_row _ _ _ _ _ _ hbx).trans rfl
 have hx5 : W0.cell? ⟨w.heap.size, 5, none⟩ = some (.slice Ak kks.length ck) := (cell_of_row _ _ _ _ _ _ hbx).trans rfl
 have HS0 := Lib.hid hS0; have Ho0 := Lib.hid ho0; have HK := Lib.hid hkc; have Hok := Lib.hid ok; have Hra := Lib.hid hra0; have Hrk := Lib.hid hrk0; have Hlo := Lib.hid hlo; have HW0 := Lib.hid hW0; have Hbx := Lib.hid hbx
 have e2 : (kd == 2) = decide (kd = 2) := rfl
 have e3 : (kd == 3) = decide (kd = 3) := rfl
 have e0 : (kd == 0) = decide (kd = 0) := rfl
 have e1 : (kd == 1) = decide (kd = 1) := rfl
 clear h hra hrk hS0 ho0 hkc hra0 hrk0 hk hi hm hpe ok hlo hKL hbx hW0
 have hcase : kd = 0 ∨ kd = 1 ∨ kd = 2 ∨ kd = 3 := by
  unfold plainB at hpl
  simp only at hpl
  by_cases a : kd = 0
  ·exact .inl a
  ·by_cases b : kd = 1
   ·exact .inr (.inl b)
   ·rw [if_neg a, if_neg b] at hpl
    by_cases c : kd = 2 ∨ kd = 3
    ·rcases c with c | c
     ·exact .inr (.inr (.inl c))
     ·exact .inr (.inr (.inr c))
    ·rw [if_neg c] at hpl; cases hpl
 rcases hcase with rfl | rfl | rfl | rfl
 ·have hpr : printN ⟨0, nm, tx, ats, par, kks⟩ KL = KL := by simp [printN]
  rw [hpr] at hl ⊢
  have Hl := Lib.hid hl
  clear hpr hpl hl
  go_enter Tryz.func202, Tryz.ntmps202
  go_upto_region 1 with fail
  rw [HW0.out]
  go_wp2_with (go_at_call 201; (with_reducible refine (HK.out _ _ _ _ _ _ HS0.out Hrk.out Hl.out).mono ?_); rintro e w5 ⟨rfl, hS5⟩; have HS5 := Lib.hid hS5; clear hS5)
  go_end0
  exact HS5.out.done Ho0.out Ho0.out.size
 ·have hpr : printN ⟨1, nm, tx, ats, par, kks⟩ KL = [60] ++ nm.data.toList ++ ats.flatMap attrL ++ [62] ++ KL ++ ([60, 47] ++ nm.data.toList ++ [62]) := by simp [printN, headL, tailL]
  have hnl : 1 ≤ nm.data.toList.length ∧ nm.data.toList.length ≤ 20 := by
   unfold plainB at hpl
   simp at hpl
   exact name_len hpl.1.1
  have hap := fun (hx : attrsB ats = true) => attrs_parts hx
  have hap2 : ats.length ≤ 8 ∧ ∀ a ∈ ats, nameB a.name.data.toList = true ∧ textB a.value.data.toList = true := by
   unfold plainB at hpl
   simp at hpl
   exact hap hpl.2
  rw [hpr] at hl ⊢
  obtain ⟨P, hP⟩ : ∃ P, P = [60] ++ nm.data.toList ++ ats.flatMap attrL ++ [62] ++ KL ++ ([60, 47] ++ nm.data.toList ++ [62]) := ⟨_, rfl⟩
  rw [← hP]
  simp only [List.length_append, List.length_cons, List.length_nil] at hl
  have hnz := Lib.size_eq nm
  have hnm : nm.size ≤ 20 := by omega
  have hl1 : l.length + nm.size + 1 ≤ 1000000000 := by omega
  have Hl := Lib.hid hl; have Hap := Lib.hid hap2; have Hnz := Lib.hid hnz; have HP := Lib.hid hP; have Hl1 := Lib.hid hl1
  have hal : ats.length ≤ 8 := hap2.1
  clear hpr hpl hl hap hap2 hnl hnz hP hl1
  go_enter Tryz.func202, Tryz.ntmps202
  go_upto_region 1 with fail
  rw [HW0.out]
  go_wp2_with (go_at_call 136; (with_reducible refine (St.write Hok.out HS0.out _ (go_sz1 Hl1.out)).mono ?_); rintro e w5 ⟨rfl, hS5⟩; obtain ⟨kx0, kx1, kx2, kx3, kx4, kx5⟩ := hS5.node; have HS5 := Lib.hid hS5; clear hS5)
  have hS5' := HS5.out.eq (show l ++ (⟨#[60]⟩ ++ nm : ByteArray).data.toList = l ++ ([60] ++ nm.data.toList ++ (ats.take 0).flatMap attrL) by rw [app_bytes]; simp)
  have HS5' := Lib.hid hS5'
  clear hS5' HS5
  go_loopw [40] (fun ix wr => ∃ k : Nat, k ≤ ats.length ∧ ix = .int .i64 k ∧ Hid (St L W0 v (l ++ ([60] ++ nm.data.toList ++ (ats.take k).flatMap attrL)) w.heap.size (.cells #[.int .i64 1, .string nm, .string tx, .slice Aa ats.length ca, .int .i64 par, .slice Ak kks.length ck] 50) wr)) (fun ix _ => ats.length - (intOf ix).toNat)
  case atStart => exact ⟨0, Nat.zero_le _, rfl, HS5'⟩
  case round =>
   obtain ⟨k, hk, rfl, hS⟩ := hrel
   by_cases hlt : k < ats.length
   ·have hra := hS.out.rd attrE_keeps Hok.out Hlo.out (Nat.le_trans hB Ho0.out.size) Hra.out
    obtain ⟨ba, oa, rfl, hba, g0, g1, _, _⟩ := FAttr.attr_at hra hlt
    have hpa := Hap.out.2 ats[k] (List.getElem_mem _)
    have htk : ats.take (k + 1) = ats.take k ++ [ats[k]] := List.take_succ_eq_append_getElem hlt
    have hfm : (ats.take (k + 1)).flatMap attrL = (ats.take k).flatMap attrL ++ attrL ats[k] := by rw [htk, List.flatMap_append]; simp
    have hfl : ((ats.take (k + 1)).flatMap attrL).length ≤ (ats.flatMap attrL).length := by
     conv => rhs; rw [← List.take_append_drop (k + 1) ats]
     rw [List.flatMap_append, List.length_append]; omega
    generalize ats[k] = a at *
    obtain ⟨an, av⟩ := a
    simp only at *
    have hanl := (name_len hpa.1).2
    have havl := text_len hpa.2
    have han := Lib.size_eq an
    have hav := Lib.size_eq av
    have hel := (esc_len true av.data.toList).2
    obtain ⟨E, hE⟩ : ∃ E, E = esc true av.data.toList := ⟨_, rfl⟩
    have hal2 : attrL ⟨an, av⟩ = [32] ++ an.data.toList ++ [61, 34] ++ E ++ [34] := by rw [hE]; rfl
    rw [← hE] at hel
    have hans : an.size ≤ 20 := by omega
    have havs : av.size ≤ 1000 := by omega
    have hEs : E.length ≤ 360 := by omega
    have hsz1 : (l ++ ([60] ++ nm.data.toList ++ (ats.take k).flatMap attrL)).length + (an.size + E.length + 4) ≤ 1000000000 := by
     have h1 := Hl.out
     rw [hfm, hal2] at hfl
     simp only [List.length_append, List.length_cons, List.length_nil] at hfl ⊢
     omega
    have hS1 := hS.out.alloc Hok.out (.cells #[.string an, .string av] 112)
    obtain ⟨W1, hW1⟩ : ∃ W1, wr.alloc (.cells #[.string an, .string av] 112) = W1 := ⟨_, rfl⟩
    rw [hW1] at hS1
    have hgn : wr.heap[w.heap.size]? = _ := hS.out.box
    have hback := fun W (hh : St L W0 v (l ++ ([60] ++ nm.data.toList ++ (ats.take (k + 1)).flatMap attrL)) wr.heap.size (.cells #[.string an, .string av] 112) W) => St.back hh Hbx.out (St.safe0 HS0.out)
    obtain ⟨p0, p1⟩ := hS1.pair
    obtain ⟨q1, q2, q3⟩ := hS1.cells
    have hr5 := fun W (hW : W = W1 ∨ W = W1.drew) => St.rep Hok.out true L.rv rfl (show St L W0 v (l ++ ([60] ++ nm.data.toList ++ (ats.take k).flatMap attrL)) wr.heap.size (.cells #[.string an, .string av] 112) W by rcases hW with rfl | rfl; exact hS1; exact hS1.drew Hok.out) av havs
    rw [← hE] at hr5
    have HR5 := Lib.hid hr5; have HW1 := Lib.hid hW1; have Hfm := Lib.hid hfm; have Hal2 := Lib.hid hal2; have Hsz1 := Lib.hid hsz1; have Hback := Lib.hid hback
    clear hr5 hW1 hfm hal2 hsz1 hback hgn hS1 hfl hel hE han hav hanl havl hpa htk hra
    go_upto_region 13 with fail
    rw [HW1.out]
    have j1 : ∀ W, (Op.stringOp .add (⟨#[32]⟩ : ByteArray) an).run Tryz.prog W = .ok (.string (⟨#[32]⟩ ++ an)) W := fun W => run_string_add_sum W _ _ (by rw [lit1]; omega)
    have j2 : ∀ W, (Op.stringOp .add ((⟨#[32]⟩ : ByteArray) ++ an) ⟨#[61, 34]⟩).run Tryz.prog W = .ok (.string (⟨#[32]⟩ ++ an ++ ⟨#[61, 34]⟩)) W := fun W => run_string_add_sum W _ _ (by rw [app_size, lit1, lit2]; omega)
    have j3 : ∀ W, (Op.stringOp .add ((⟨#[32]⟩ : ByteArray) ++ an ++ ⟨#[61, 34]⟩) ⟨E.toArray⟩).run Tryz.prog W = .ok (.string (⟨#[32]⟩ ++ an ++ ⟨#[61, 34]⟩ ++ ⟨E.toArray⟩)) W := fun W => run_string_add_sum W _ _ (cat3 hans hEs)
    have j4 : ∀ W, (Op.stringOp .add ((⟨#[32]⟩ : ByteArray) ++ an ++ ⟨#[61, 34]⟩ ++ ⟨E.toArray⟩) ⟨#[34]⟩).run Tryz.prog W = .ok (.string (⟨#[32]⟩ ++ an ++ ⟨#[61, 34]⟩ ++ ⟨E.toArray⟩ ++ ⟨#[34]⟩)) W := fun W => run_string_add_sum W _ _ (cat4 hans hEs)
    go_region_held3 (fun w' => w'.cell? ⟨wr.heap.size, 0, none⟩ = some (.string an) ∧ w'.cell? ⟨wr.heap.size, 1, none⟩ = some (.string av) ∧ w'.cell? ⟨L.bv, 0, none⟩ = some (.pointer (some ⟨L.rv, 0, none⟩)))
     (first | exact ⟨p0, p1, q2⟩ | exact ⟨r0, r1, r2⟩ | exact ⟨t0, t1, t2⟩ | go_keep)
     (first
     | (go_at_call 203; (first | (with_reducible refine (HR5.out _ (.inl rfl)).mono ?_) | (with_reducible refine (HR5.out _ (.inr rfl)).mono ?_)); rintro e w6 ⟨rfl, hS6⟩; obtain ⟨r0, r1⟩ := hS6.pair; obtain ⟨_, r2, _⟩ := hS6.cells; have HS6 := Lib.hid hS6; clear hS6)
     | (go_at_call 136; (with_reducible refine (St.write Hok.out HS6.out _ (go_sz5 Hsz1.out)).mono ?_); rintro e w7 ⟨rfl, hS7⟩; obtain ⟨t0, t1⟩ := hS7.pair; obtain ⟨_, t2, _⟩ := hS7.cells; have HS7 := Lib.hid hS7; clear hS7))
    all_goals go_wp2_with fail
    all_goals
     go_roundw
     case rel =>
      refine ⟨k + 1, by omega, by go_num, Lib.hid (Hback.out _ (HS7.out.eq ?_))⟩
      rw [Hfm.out, Hal2.out, app_bytes, app_bytes, app_bytes, app_bytes]
      simp only [List.append_assoc]
     case measure => simp [intOf]; omega
   ·obtain rfl : k = ats.length := by omega
    rw [List.take_length] at hS
    have hrkw := hS.out.rd (intE_keeps _) Hok.out Hlo.out (Nat.le_trans hB Ho0.out.size) Hrk.out
    clear hlt
    have hs1 : (l ++ ([60] ++ nm.data.toList ++ ats.flatMap attrL)).length + KL.length + nm.size + 4 ≤ 1000000000 := by
     have h1 := Hl.out; have h2 := Hnz.out; simp only [List.length_append, List.length_cons, List.length_nil]; omega
    have Hs1 := Lib.hid hs1
    clear hs1 hrkw
    go_wp2_with (first
     | (go_at_call_of 136 (Value.string ⟨#[62]⟩); (with_reducible refine (St.write Hok.out hS.out _ (go_sz6 Hs1.out)).mono ?_); rintro e w6 ⟨rfl, hS6⟩; obtain ⟨y0, y1, y2, y3, y4, y5⟩ := hS6.node; obtain ⟨z1, z2, z3⟩ := hS6.cells; have HS6 := Lib.hid hS6; clear hS6)
     | (go_at_call 201; (with_reducible refine (HK.out _ _ _ _ _ _ HS6.out (HS6.out.rd (intE_keeps _) Hok.out Hlo.out (Nat.le_trans hB Ho0.out.size) Hrk.out) (go_sz7 Hs1.out)).mono ?_); rintro e w7 ⟨rfl, hS7⟩; obtain ⟨v0, v1, v2, v3, v4, v5⟩ := hS7.node; have HS7 := Lib.hid hS7; clear hS7)
     | (go_at_call 136; (with_reducible refine (St.write Hok.out HS7.out _ (go_sz8 Hs1.out)).mono ?_); rintro e w8 ⟨rfl, hS8⟩; have HS8 := Lib.hid hS8; clear hS8))
    go_end0
    exact (HS8.out.eq (by rw [HP.out, app_bytes, app_bytes]; simp only [List.append_assoc])).done Ho0.out Ho0.out.size
 ·have htx : tx.size ≤ 60 := by
   unfold plainB at hpl
   simp at hpl
   rw [Lib.size_eq]
   exact text_len hpl.1.1.2
  have hpr : printN ⟨2, nm, tx, ats, par, kks⟩ KL = esc false tx.data.toList := by simp [printN]
  rw [hpr] at hl ⊢
  have hrp := fun W (hS : St L W0 v l w.heap.size (.cells #[.int .i64 2, .string nm, .string tx, .slice Aa ats.length ca, .int .i64 par, .slice Ak kks.length ck] 50) W) => St.rep Hok.out false L.rt rfl hS tx (by omega)
  have HR := Lib.hid hrp; have Hl := Lib.hid hl
  clear hpr hpl hrp hl
  go_enter Tryz.func202, Tryz.ntmps202
  go_upto_region 1 with fail
  rw [HW0.out]
  go_wp2_with (first
   | (go_at_call 203; (with_reducible refine (HR.out _ HS0.out).mono ?_); rintro e w5 ⟨rfl, hS5⟩; have HS5 := Lib.hid hS5; clear hS5)
   | (go_at_call 136; (with_reducible refine (St.write Hok.out HS5.out _ (by have h1 := Hl.out; rw [size_len]; exact h1)).mono ?_); rintro e w6 ⟨rfl, hS6⟩; have HS6 := Lib.hid hS6; clear hS6))
  go_end0
  exact HS6.out.done Ho0.out Ho0.out.size
 ·have htx : tx.size ≤ 60 := by
   unfold plainB at hpl
   simp at hpl
   rw [Lib.size_eq]
   exact text_len hpl.1.1.2
  have hpr : printN ⟨3, nm, tx, ats, par, kks⟩ KL = [60, 33] ++ esc false tx.data.toList ++ [33, 62] := by simp [printN]
  rw [hpr] at hl ⊢
  obtain ⟨E, hE⟩ : ∃ E, E = esc false tx.data.toList := ⟨_, rfl⟩
  have hel := (esc_len false tx.data.toList).2
  rw [← Lib.size_eq, ← hE] at hel
  rw [← hE] at hl ⊢
  obtain ⟨P, hP⟩ : ∃ P, P = [60, 33] ++ E ++ [33, 62] := ⟨_, rfl⟩
  rw [← hP]
  simp only [List.length_append, List.length_cons, List.length_nil] at hl
  have hEl : E.length ≤ 360 := by omega
  have hl1 : l.length + E.length + 4 ≤ 1000000000 := by omega
  have hrp := fun W (hS : St L W0 v l w.heap.size (.cells #[.int .i64 3, .string nm, .string tx, .slice Aa ats.length ca, .int .i64 par, .slice Ak kks.length ck] 50) W) => St.rep Hok.out false L.rt rfl hS tx (by omega)
  rw [← hE] at hrp
  have HR := Lib.hid hrp; have Hl1 := Lib.hid hl1; have HP := Lib.hid hP
  clear hpr hpl hrp hl hl1 hP hE hel
  go_enter Tryz.func202, Tryz.ntmps202
  go_upto_region 1 with fail
  rw [HW0.out]
  go_wp2_with (first
   | (go_at_call 203; (with_reducible refine (HR.out _ HS0.out).mono ?_); rintro e w5 ⟨rfl, hS5⟩; have HS5 := Lib.hid hS5; clear hS5)
   | (go_at_call 136; (with_reducible refine (St.write Hok.out HS5.out _ (go_sz3 Hl1.out)).mono ?_); rintro e w6 ⟨rfl, hS6⟩; have HS6 := Lib.hid hS6; clear hS6))
  go_end0
  exact (HS6.out.eq (by rw [HP.out, app_bytes, app_bytes])).done Ho0.out Ho0.out.size
end Go.Proofs.YtmbhkkophkccbaaGreat.Pr
end
section
namespace Go.Proofs.YtmbhkkophkccbaaGreat.Pr
open Go Go.RowKit Go.Proofs.YtmbhkkophkccbaaGreat.Seq WS FS Mem Rd Shapes Build Repl ReplB ReplR ReplC FFam
set_option linter.unusedVariables false
set_option linter.unusedSimpArgs false

theorem Sz.alloc_size (w : World) (o : Obj) : (w.alloc o).heap.size = w.heap.size + 1 := by simp
theorem run_store_func (P : Program) (w : World) (a : Addr) (m : Mode) (fn : Fn) (first cap : Array Value) : (store a (.func fn first cap) m).run P w = stored P w a (.func fn first cap) m := run_store P w a _ m rfl
attribute [local go_sem] run_store_func
theorem put_all (L : Lay) (ok : L.OK) (hm : mayB L.f = true) {i : Int} (hi : isNode L.f i = true) : PutOK L i :=
 down_ind (may_family hm) (may_climbs hm) (P := PutOK L) (fun i hi ih => put_step L ok hm i hi (fun k hk => ⟨(fam_kids (may_family hm) hi hk).1, ih k hk⟩)) hi
theorem ret_str0 (f : Fo) (i : Int) (h : ¬ (mayB f = true ∧ isNode f i = true)) : Ending.returned (.string ⟨#[]⟩) = .returned (.string ⟨(printF f i).toArray⟩) := by
 unfold printF
 rw [if_neg h]
theorem print_no (w : World) (v : Value) (f : Fo) (id : Int) (h : RdF w.heap.size w v f) (hkm : ∀ n ∈ f, n.kids.length ≤ 1000) (hno : ¬ (mayB f = true ∧ isNode f id = true)) :
  Calls Tryz.prog 141 #[v, .int .i64 id] w fun e w' => e = .returned (.string ⟨(printF f id).toArray⟩) ∧ Below w.heap.size w w' := by
 have hr := ret_str0 f id hno
 have hlen := h.len
 simp only [maxLen] at hlen
 obtain ⟨A0, c0, rfl, hl0, hc0, h'⟩ := h.form
 have hmy := FMay.May_calls (w.alloc (.cells #[.slice A0 f.length c0] 29)) _ f ((h'.keep nodeE_keeps ((Below.refl _ _).alloc (Nat.le_refl _) _) (Nat.le_refl _)).mono nodeE_keeps (by simp)) hkm
 have Hr := Lib.hid hr
 clear h h' hr
 by_cases hm : mayB f = true
 ·rw [hm] at hmy
  have Hmy := Lib.hid hmy
  have hid : ¬ (0 ≤ id ∧ id < f.length) := fun hh => hno ⟨hm, (node_iff _ _).2 hh⟩
  clear hmy hno hm
  by_cases h0 : id < 0
  ·clear hid
   go_enter Tryz.func141, Tryz.ntmps141
   go_wp2_with (go_at_call 42; (with_reducible refine (Hmy.out).mono ?_); rintro e w5 ⟨rfl, hb5⟩; have hcc := cell_grow hb5 (a := ⟨w.heap.size, 0, none⟩) (v := .slice A0 f.length c0) (by simp); have Hb5 := Lib.hid hb5; clear hb5)
   go_ret
   exact ⟨Hr.out, bthen ((Below.refl _ _).alloc (Nat.le_refl _) _) Hb5.out⟩
  ·have h1 : (f.length : Int) ≤ id := by omega
   clear hid
   go_enter Tryz.func141, Tryz.ntmps141
   go_wp2_with (go_at_call 42; (with_reducible refine (Hmy.out).mono ?_); rintro e w5 ⟨rfl, hb5⟩; have hcc := cell_grow hb5 (a := ⟨w.heap.size, 0, none⟩) (v := .slice A0 f.length c0) (by simp); have Hb5 := Lib.hid hb5; clear hb5)
   go_ret
   exact ⟨Hr.out, bthen ((Below.refl _ _).alloc (Nat.le_refl _) _) Hb5.out⟩
 ·rw [Bool.not_eq_true] at hm
  rw [hm] at hmy
  have Hmy := Lib.hid hmy
  clear hmy hno hm
  go_enter Tryz.func141, Tryz.ntmps141
  go_wp2_with (go_at_call 42; (with_reducible refine (Hmy.out).mono ?_); rintro e w5 ⟨rfl, hb5⟩; have hcc := cell_grow hb5 (a := ⟨w.heap.size, 0, none⟩) (v := .slice A0 f.length c0) (by simp); have Hb5 := Lib.hid hb5; clear hb5)
  go_ret
  exact ⟨Hr.out, bthen ((Below.refl _ _).alloc (Nat.le_refl _) _) Hb5.out⟩
theorem new_text (W : World) (b : Nat) (hb : b = W.heap.size) : Calls Tryz.prog 200 #[.slice (some ⟨b, 0, none⟩) 4 4] (W.alloc (.cells #[.string ⟨#[38]⟩, .string ⟨#[38, 97, 109, 112, 59]⟩, .string ⟨#[60]⟩, .string ⟨#[38, 108, 116, 59]⟩] 9))
  (NewPost (W.alloc (.cells #[.string ⟨#[38]⟩, .string ⟨#[38, 97, 109, 112, 59]⟩, .string ⟨#[60]⟩, .string ⟨#[38, 108, 116, 59]⟩] 9)) (psQ false)) :=
 NewReplacer_calls _ (psQ false) (by decide) (by decide) b (heap_new hb) 4 rfl
theorem new_value (W : World) (b : Nat) (hb : b = W.heap.size) : Calls Tryz.prog 200 #[.slice (some ⟨b, 0, none⟩) 6 6] (W.alloc (.cells #[.string ⟨#[38]⟩, .string ⟨#[38, 97, 109, 112, 59]⟩, .string ⟨#[60]⟩, .string ⟨#[38, 108, 116, 59]⟩, .string ⟨#[34]⟩, .string ⟨#[38, 113, 117, 111, 116, 59]⟩] 9))
  (NewPost (W.alloc (.cells #[.string ⟨#[38]⟩, .string ⟨#[38, 97, 109, 112, 59]⟩, .string ⟨#[60]⟩, .string ⟨#[38, 108, 116, 59]⟩, .string ⟨#[34]⟩, .string ⟨#[38, 113, 117, 111, 116, 59]⟩] 9)) (psQ true)) :=
 NewReplacer_calls _ (psQ true) (by decide) (by decide) b (heap_new hb) 6 rfl
abbrev cs4 : Obj := .cells #[.string ⟨#[38]⟩, .string ⟨#[38, 97, 109, 112, 59]⟩, .string ⟨#[60]⟩, .string ⟨#[38, 108, 116, 59]⟩] 9
abbrev cs6 : Obj := .cells #[.string ⟨#[38]⟩, .string ⟨#[38, 97, 109, 112, 59]⟩, .string ⟨#[60]⟩, .string ⟨#[38, 108, 116, 59]⟩, .string ⟨#[34]⟩, .string ⟨#[38, 113, 117, 111, 116, 59]⟩] 9
def layOf (w w5 w6 w8 : World) (f : Fo) (A0 : Option Addr) (c0 rt rv : Nat) : Lay := ⟨f, w.heap.size, A0, c0, w5.heap.size, w6.heap.size, w8.heap.size, w8.heap.size + 1 + 1, w8.heap.size + 1, w.heap.size, rt, rv, w8.heap.size + 1 + 1 + 1⟩
theorem print_init {w w5 w6 w8 : World} {f : Fo} {A0 : Option Addr} {c0 rt rv : Nat} {F1 F2 : Nat → Prop} (hrd : RdF w.heap.size w (.slice A0 f.length c0) f)
  (hb5 : Below (w.alloc (.cells #[.slice A0 f.length c0] 29)).heap.size (w.alloc (.cells #[.slice A0 f.length c0] 29)) w5)
  (hge1 : ((w5.alloc (.cells #[.pointer none, .slice none 0 0] 210)).alloc cs4).heap.size ≤ rt) (hrep1 : IsRep rt (psQ false) F1 w6)
  (hF1 : ∀ k, F1 k → ((w5.alloc (.cells #[.pointer none, .slice none 0 0] 210)).alloc cs4).heap.size ≤ k ∧ k < w6.heap.size ∧ k ≠ rt)
  (hb6 : Below ((w5.alloc (.cells #[.pointer none, .slice none 0 0] 210)).alloc cs4).heap.size ((w5.alloc (.cells #[.pointer none, .slice none 0 0] 210)).alloc cs4) w6)
  (hge2 : ((w6.alloc (.cells #[.pointer (some ⟨rt, 0, none⟩)] 263)).alloc cs6).heap.size ≤ rv) (hrep2 : IsRep rv (psQ true) F2 w8)
  (hF2 : ∀ k, F2 k → ((w6.alloc (.cells #[.pointer (some ⟨rt, 0, none⟩)] 263)).alloc cs6).heap.size ≤ k ∧ k < w8.heap.size ∧ k ≠ rv)
  (hb8 : Below ((w6.alloc (.cells #[.pointer (some ⟨rt, 0, none⟩)] 263)).alloc cs6).heap.size ((w6.alloc (.cells #[.pointer (some ⟨rt, 0, none⟩)] 263)).alloc cs6) w8) {W : World}
  (hW : W = ((w8.alloc (.cells #[.pointer (some ⟨rv, 0, none⟩)] 263)).alloc (.cells #[.func (.func 202) #[] #[.pointer (some ⟨w5.heap.size, 0, none⟩), .pointer (some ⟨w6.heap.size, 0, none⟩), .pointer (some ⟨w8.heap.size + 1 + 1, 0, none⟩), .pointer (some ⟨w8.heap.size, 0, none⟩)]] 265)).alloc
   (.cells #[.func (.func 201) #[] #[.pointer (some ⟨w8.heap.size + 1, 0, none⟩), .pointer (some ⟨w.heap.size, 0, none⟩)]] 265)) :
  (layOf w w5 w6 w8 f A0 c0 rt rv).OK ∧ PInv (layOf w w5 w6 w8 f A0 c0 rt rv) [] (.slice none 0 0) (fun k => F1 k ∨ F2 k) W ∧ Below w.heap.size w W := by
 have lt1 : rt < w6.heap.size := by rcases hrep1 with ⟨so, h, _⟩ | ⟨T, h, _⟩ <;> exact lt_heap h
 have lt2 : rv < w8.heap.size := by rcases hrep2 with ⟨so, h, _⟩ | ⟨T, h, _⟩ <;> exact lt_heap h
 have s5 := hb5.size
 have s6 := hb6.size
 have s8 := hb8.size
 simp only [Sz.alloc_size] at s5 s6 s8 hge1 hge2 hF1 hF2
 have sW : W.heap.size = w8.heap.size + 1 + 1 + 1 := by rw [hW]; simp
 have k8 : ∀ k o, w8.heap[k]? = some o → W.heap[k]? = some o := fun k o h => by rw [hW]; exact heap_old (heap_old (heap_old h))
 have k6 : ∀ k o, w6.heap[k]? = some o → w8.heap[k]? = some o := fun k o h => (hb8.block k (by have := lt_heap h; simp; omega)).trans (heap_old (heap_old h))
 have k5 : ∀ k o, w5.heap[k]? = some o → w6.heap[k]? = some o := fun k o h => (hb6.block k (by have := lt_heap h; simp; omega)).trans (heap_old (heap_old h))
 have hk8 : ∀ k, k < w8.heap.size → W.heap[k]? = w8.heap[k]? := fun k hk => by
  have e := Array.getElem?_eq_getElem hk
  exact (k8 k _ e).trans e.symm
 have hk6 : ∀ k, k < w6.heap.size → W.heap[k]? = w6.heap[k]? := fun k hk => by
  have e := Array.getElem?_eq_getElem hk
  exact (k8 k _ (k6 k _ e)).trans e.symm
 have hbox : w5.heap[w.heap.size]? = some (.cells #[.slice A0 f.length c0] 29 (0, 0)) := (hb5.block _ (by simp)).trans (World.alloc_heap_new _ _)
 have hbl : w6.heap[w5.heap.size]? = some (.cells #[.pointer none, .slice none 0 0] 210 (0, 0)) := (hb6.block _ (by simp; omega)).trans (heap_old (World.alloc_heap_new _ _))
 have hbt : w8.heap[w6.heap.size]? = some (.cells #[.pointer (some ⟨rt, 0, none⟩)] 263 (0, 0)) := (hb8.block _ (by simp; omega)).trans (heap_old (World.alloc_heap_new _ _))
 have hbel : Below w.heap.size w W := by
  have b1 : Below w.heap.size w w5 := bthen ((Below.refl _ _).alloc (Nat.le_refl _) _) hb5
  have b2 : Below w.heap.size w w6 := bthen ((b1.alloc b1.size _).alloc (by have := b1.size; simp; omega) _) hb6
  have b3 : Below w.heap.size w w8 := bthen ((b2.alloc b2.size _).alloc (by have := b2.size; simp; omega) _) hb8
  have := b3.size
  rw [hW]
  exact ((b3.alloc b3.size _).alloc (by simp; omega) _).alloc (by simp; omega) _
 refine ⟨?_, ?_, hbel⟩
 ·constructor <;> simp only [layOf] <;> omega
 ·refine ⟨k8 _ _ (k6 _ _ (k5 _ _ hbox)), k8 _ _ hbt, ?_, ?_, ?_, hrd.keep nodeE_keeps hbel (Nat.le_refl _), ⟨.inl (k8 _ _ (k6 _ _ hbl)), World.ownsRow_nil _ _ _ _, ?_, ?_⟩, ?_, ?_, ?_, ?_, ?_⟩
  ·rw [hW]; exact heap_old (heap_old (World.alloc_heap_new _ _))
  ·rw [hW]; exact heap_new (by simp [layOf])
  ·rw [hW]; exact heap_old (heap_new (by simp [layOf]))
  ·intro e; cases e
  ·simp only [layOf]; omega
  ·exact hrep1.keep (hk6 _ lt1) (fun k hk => hk6 k (hF1 k hk).2.1) (fun _ x => .inl x)
  ·exact hrep2.keep (hk8 _ lt2) (fun k hk => hk8 k (hF2 k hk).2.1) (fun _ x => .inr x)
  ·rintro k (hk | hk)
   ·have := hF1 k hk
    simp only [layOf]
    exact ⟨by omega, by omega, by omega, by omega, fun e => by cases e⟩
   ·have := hF2 k hk
    simp only [layOf]
    exact ⟨by omega, by omega, by omega, by omega, fun e => by cases e⟩
  ·intro g hg; cases hg
  ·simp only [layOf]; omega
theorem print_string {w w5 w6 w8 w9 : World} {f : Fo} {A0 : Option Addr} {c0 rt rv : Nat} {p : List UInt8} {v9 : Value} {Fs9 : Nat → Prop} (h : PInv (layOf w w5 w6 w8 f A0 c0 rt rv) ([] ++ p) v9 Fs9 w9) (hs : w.heap.size ≤ w9.heap.size) :
  Calls Tryz.prog 137 #[.pointer (some ⟨w5.heap.size, 0, none⟩)] w9 fun e w' => e = .returned (.string ⟨p.toArray⟩) ∧ Below w.heap.size w9 w' :=
 ShelfB.String_any w.heap.size w5.heap.size p w9 h.bd.lib hs
set_option maxRecDepth 100000 in
set_option maxHeartbeats 4000000 in
theorem print_yes (w : World) (v : Value) (f : Fo) (j : Nat) (h : RdF w.heap.size w v f) (hkm : ∀ n ∈ f, n.kids.length ≤ 1000) (hm : mayB f = true) (hj : j < f.length) :
  Calls Tryz.prog 141 #[v, .int .i64 j] w fun e w' => e = .returned (.string ⟨(printL f j).toArray⟩) ∧ Below w.heap.size w w' := by
 have hlen := h.len
 simp only [maxLen] at hlen
 obtain ⟨A0, c0, rfl, hl0, hc0, h'⟩ := h.form
 have hmy := FMay.May_calls (w.alloc (.cells #[.slice A0 f.length c0] 29)) _ f ((h'.keep nodeE_keeps ((Below.refl _ _).alloc (Nat.le_refl _) _) (Nat.le_refl _)).mono nodeE_keeps (by simp)) hkm
 rw [hm] at hmy
 have Hmy := Lib.hid hmy; have Hm := Lib.hid hm; have Hh := Lib.hid h'; have Hkm := Lib.hid hkm
 have hjn : (j : Int) < f.length := by omega
 clear hmy h h' hkm hm
 have Hn1 := Lib.hid new_text; have Hn2 := Lib.hid new_value
 have hmf : ∀ (fn : Fn) (first cap : Array Value) (w : World), (Instr.makeFunc fn first cap).run Tryz.prog w = .ok (.func fn first cap) w := fun _ _ _ _ => rfl
 go_enter Tryz.func141, Tryz.ntmps141
 go_upto_region 9 with (first
  | (go_at_call 42; (with_reducible refine (Hmy.out).mono ?_); rintro e w5 ⟨rfl, hb5⟩; have hcc := cell_grow hb5 (a := ⟨w.heap.size, 0, none⟩) (v := .slice A0 f.length c0) (by simp); have Hb5 := Lib.hid hb5; clear hb5)
  | (go_at_call 200; (with_reducible refine (Hn1.out _ _ (by simp)).mono ?_); rintro e w6 ⟨rt, F1, rfl, hge1, hrep1, hF1, hb6⟩; have Hge1 := Lib.hid hge1; have Hrep1 := Lib.hid hrep1; have HF1 := Lib.hid hF1; have Hb6 := Lib.hid hb6; clear hge1 hrep1 hF1 hb6)
  | (go_at_call 200; (with_reducible refine (Hn2.out _ _ (by simp)).mono ?_); rintro e w8 ⟨rv, F2, rfl, hge2, hrep2, hF2, hb8⟩; have Hge2 := Lib.hid hge2; have Hrep2 := Lib.hid hrep2; have HF2 := Lib.hid hF2; have Hb8 := Lib.hid hb8; clear hge2 hrep2 hF2 hb8))
 obtain ⟨W, hW⟩ : ∃ W, W = ((w8.alloc (.cells #[.pointer (some ⟨rv, 0, none⟩)] 263)).alloc (.cells #[.func (.func 202) #[] #[.pointer (some ⟨w5.heap.size, 0, none⟩), .pointer (some ⟨w6.heap.size, 0, none⟩), .pointer (some ⟨w8.heap.size + 1 + 1, 0, none⟩), .pointer (some ⟨w8.heap.size, 0, none⟩)]] 265)).alloc
   (.cells #[.func (.func 201) #[] #[.pointer (some ⟨w8.heap.size + 1, 0, none⟩), .pointer (some ⟨w.heap.size, 0, none⟩)]] 265) := ⟨_, rfl⟩
 have hin := print_init Hh.out Hb5.out Hge1.out Hrep1.out HF1.out Hb6.out Hge2.out Hrep2.out HF2.out Hb8.out hW
 rw [← hW]
 clear hW hcc
 obtain ⟨ok, hI, hbw⟩ := hin
 have hnode : isNode f (j : Int) = true := (node_iff _ _).2 ⟨by omega, hjn⟩
 have hput := put_all (layOf w w5 w6 w8 f A0 c0 rt rv) ok Hm.out hnode
 have hsm := print_small Hm.out hnode
 have hsm2 : ([] : List UInt8).length + (printL f j).length ≤ 1000000000 := by rw [List.length_nil]; omega
 have c1 : W.cell? ⟨w8.heap.size + 1, 0, none⟩ = _ := cell_of hI.vp
 have c2 : W.cell? ⟨w.heap.size, 0, none⟩ = _ := cell_of hI.vF
 obtain ⟨b1, o1, Aa1, ca1, Ak1, ck1, hA, hbl, g0, g1, g2, g3, g4, g5, ra, rk, la, lca, lk, lck, m1, m2, m3, m4⟩ := node_at hI.rd hj
 simp only [layOf] at c1 c2 hA
 rw [hA] at c2
 simp only [layOf] at g0 g1 g2 g3 g4 g5 ra rk
 rw [← at_nat hj] at ra rk g0 g1 g2 g3 g4 g5
 have hp : ∀ W', (W' = W ∨ W' = W.drew) → Calls Tryz.prog 202 #[nodeV (at_ f j) Aa1 ca1 Ak1 ck1, .pointer (some ⟨w5.heap.size, 0, none⟩), .pointer (some ⟨w6.heap.size, 0, none⟩), .pointer (some ⟨w8.heap.size + 1 + 1, 0, none⟩), .pointer (some ⟨w8.heap.size, 0, none⟩)] W' (DonePr (layOf w w5 w6 w8 f A0 c0 rt rv) [] (printL f j) (.slice none 0 0) W') := by
  rintro W' (rfl | rfl)
  ·exact hput _ _ _ _ _ _ _ _ hI ra rk hsm2
  ·exact hput _ _ _ _ _ _ _ _ (hI.drew ok) (rd_off attrE_keeps hI ok ra (Off.drew _ _)) (rd_off (intE_keeps _) hI ok rk (Off.drew _ _)) hsm2
 unfold nodeV at hp
 have hyl := hI.lo ok
 have Hp := Lib.hid hp; have Hbw := Lib.hid hbw; have Hok := Lib.hid ok; have Hyl := Lib.hid hyl
 have hlc : f.length ≤ c0 := by omega
 generalize at_ f j = n1 at *
 clear hp hput hsm hI ra rk la lca lk lck m1 m2 m3 m4 hA hnode hbw ok hyl
 go_region_with (go_at_call 202; (first | with_reducible refine (Hp.out _ (.inl rfl)).mono ?_ | with_reducible refine (Hp.out _ (.inr rfl)).mono ?_); go_loud (rintro e w9 ⟨rfl, v9, Fs9, hI9, hO9, hG9⟩; have Hst := Lib.hid (print_string hI9 (Nat.le_trans Hbw.out.size hO9.size)); have HI9 := Lib.hid hI9; have HO9 := Lib.hid hO9; clear hI9 hO9 hG9))
 all_goals go_wp2_with (go_at_call 137; (with_reducible refine (Hst.out).mono ?_); rintro e w10 ⟨rfl, hb10⟩; have Hb10 := Lib.hid hb10; clear hb10)
 all_goals
  go_ret
  refine ⟨rfl, ?_⟩
  first
   | exact (Hbw.out.trans (HO9.out.toBelow Hbw.out.size Hyl.out)).trans Hb10.out
   | exact ((Hbw.out.drew).trans (HO9.out.toBelow Hbw.out.size Hyl.out)).trans Hb10.out
   | exact ((Hbw.out.trans (HO9.out.toBelow Hbw.out.size Hyl.out)).drew).trans Hb10.out
   | exact (((Hbw.out.drew).trans (HO9.out.toBelow Hbw.out.size Hyl.out)).drew).trans Hb10.out
theorem Print_calls (w : World) (v : Value) (f : Fo) (id : Int) (h : RdF w.heap.size w v f) (hkm : ∀ n ∈ f, n.kids.length ≤ 1000) :
  Calls Tryz.prog 141 #[v, .int .i64 id] w fun e w' => e = .returned (.string ⟨(printF f id).toArray⟩) ∧ Below w.heap.size w w' := by
 by_cases hc : mayB f = true ∧ isNode f id = true
 ·obtain ⟨j, rfl, hj⟩ := node_nat hc.2
  unfold printF
  rw [if_pos hc]
  exact print_yes w v f j h hkm hc.1 hj
 ·exact print_no w v f id h hkm hc
end Go.Proofs.YtmbhkkophkccbaaGreat.Pr
end
