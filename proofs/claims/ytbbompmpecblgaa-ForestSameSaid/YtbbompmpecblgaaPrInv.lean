/- forest.Print: what lies in memory while it prints. -/
import Derived.Test.YtbbompmpecblgaaReplC
import Derived.Test.YtbbompmpecblgaaFTops
namespace Go.Proofs.Ytbbompmpecblgaa.Pr
open Go Go.RowKit Go.Proofs.Ytbbompmpecblgaa.Seq Go.Proofs.Ytbbompmpecblgaa.WS Go.Proofs.Ytbbompmpecblgaa.FS Go.Proofs.Ytbbompmpecblgaa.Mem Go.Proofs.Ytbbompmpecblgaa.Rd Go.Proofs.Ytbbompmpecblgaa.Shapes Go.Proofs.Ytbbompmpecblgaa.Build Go.Proofs.Ytbbompmpecblgaa.Repl Go.Proofs.Ytbbompmpecblgaa.ReplB Go.Proofs.Ytbbompmpecblgaa.ReplR Go.Proofs.Ytbbompmpecblgaa.ReplC
set_option linter.unusedVariables false
set_option linter.unusedSimpArgs false

def psQ (q : Bool) : Pairs := [(38, [38, 97, 109, 112, 59]), (60, [38, 108, 116, 59])] ++ (if q then [(34, [38, 113, 117, 111, 116, 59])] else [])
theorem psQ_good (q : Bool) : ReplB.Good (psQ q) := by
  cases q
  · exact ⟨by decide, by decide, by decide, by decide⟩
  · exact ⟨by decide, by decide, by decide, by decide⟩
theorem psQ_lkd (q : Bool) (c : UInt8) : lkd (psQ q) c = repl q c := by
  unfold lkd psQ repl
  by_cases h1 : c = 38
  · subst h1; cases q <;> rfl
  · by_cases h2 : c = 60
    · subst h2; cases q <;> rfl
    · have e1 : ((38 : UInt8) == c) = false := by simpa using fun h => h1 h.symm
      have e2 : ((60 : UInt8) == c) = false := by simpa using fun h => h2 h.symm
      cases q
      · simp [List.find?_cons, e1, e2, h1, h2]
      · by_cases h3 : c = 34
        · subst h3; rfl
        · have e3 : ((34 : UInt8) == c) = false := by simpa using fun h => h3 h.symm
          simp [List.find?_cons, e1, e2, e3, h1, h2, h3]
theorem psQ_rp (q : Bool) (l : List UInt8) : rp (psQ q) l = esc q l := by
  unfold rp esc
  rw [show rp1 (psQ q) = escB q from funext fun c => by unfold rp1 escB; rw [psQ_lkd]]

/-- Where all lies that stays where it is. -/
structure Lay where
  f : Fo
  B : Nat
  A : Option Addr
  c : Nat
  b : Nat
  bt : Nat
  bv : Nat
  bk : Nat
  bp : Nat
  bF : Nat
  rt : Nat
  rv : Nat
  Bp : Nat
structure Lay.OK (L : Lay) : Prop where
  lt : L.b < L.Bp ∧ L.bt < L.Bp ∧ L.bv < L.Bp ∧ L.bk < L.Bp ∧ L.bp < L.Bp ∧ L.bF < L.Bp ∧ L.rt < L.Bp ∧ L.rv < L.Bp
  ge : L.B ≤ L.b ∧ L.B ≤ L.rt ∧ L.B ≤ L.rv
  ne : L.b ≠ L.rt ∧ L.b ≠ L.rv ∧ L.rt ≠ L.rv
  nt : L.bt ≠ L.b ∧ L.bt ≠ L.rt ∧ L.bt ≠ L.rv
  nv : L.bv ≠ L.b ∧ L.bv ≠ L.rt ∧ L.bv ≠ L.rv
  nk : L.bk ≠ L.b ∧ L.bk ≠ L.rt ∧ L.bk ≠ L.rv
  np : L.bp ≠ L.b ∧ L.bp ≠ L.rt ∧ L.bp ≠ L.rv
  nF : L.bF ≠ L.b ∧ L.bF ≠ L.rt ∧ L.bF ≠ L.rv
/-- What may turn. -/
def YP (L : Lay) (v : Value) : Nat → Prop := fun k => k = L.b ∨ k = L.rt ∨ k = L.rv ∨ v.ownBlock = some k
structure PInv (L : Lay) (l : List UInt8) (v : Value) (Fs : Nat → Prop) (w : World) : Prop where
  vF : w.heap[L.bF]? = some (.cells #[.slice L.A L.f.length L.c] 33 (0, 0))
  vt : w.heap[L.bt]? = some (.cells #[.pointer (some ⟨L.rt, 0, none⟩)] 92 (0, 0))
  vv : w.heap[L.bv]? = some (.cells #[.pointer (some ⟨L.rv, 0, none⟩)] 92 (0, 0))
  vk : w.heap[L.bk]? = some (.cells #[.func (.func 69) #[] #[.pointer (some ⟨L.bp, 0, none⟩), .pointer (some ⟨L.bF, 0, none⟩)]] 94 (0, 0))
  vp : w.heap[L.bp]? = some (.cells #[.func (.func 70) #[] #[.pointer (some ⟨L.b, 0, none⟩), .pointer (some ⟨L.bt, 0, none⟩), .pointer (some ⟨L.bk, 0, none⟩), .pointer (some ⟨L.bv, 0, none⟩)]] 94 (0, 0))
  rd : RdF L.B w (.slice L.A L.f.length L.c) L.f
  bd : IsB L.B L.b l v w
  r1 : IsRep L.rt (psQ false) Fs w
  r2 : IsRep L.rv (psQ true) Fs w
  fs : ∀ k, Fs k → k < w.heap.size ∧ k ≠ L.b ∧ k ≠ L.rt ∧ k ≠ L.rv ∧ v.ownBlock ≠ some k
  own : ∀ g, v.ownBlock = some g → L.Bp ≤ g
  sz : L.Bp ≤ w.heap.size
def Grew (w : World) (v v' : Value) : Prop := v'.ownBlock = v.ownBlock ∨ ∃ g, v'.ownBlock = some g ∧ w.heap.size ≤ g
theorem Grew.refl (w : World) (v : Value) : Grew w v v := .inl rfl
theorem Grew.trans {w w1 : World} {v v1 v2 : Value} (h : Grew w v v1) (k : Grew w1 v1 v2) (hs : w.heap.size ≤ w1.heap.size) : Grew w v v2 := by
  rcases k with k | ⟨g, k1, k2⟩
  · unfold Grew; rw [k]; exact h
  · exact .inr ⟨g, k1, Nat.le_trans hs k2⟩
theorem YP.trans {L : Lay} {v v1 : Value} {w w1 w2 : World} (h : Off (YP L v) w w1) (g : Grew w v v1) (k : Off (YP L v1) w1 w2) : Off (YP L v) w w2 :=
  h.trans' k (fun b hb => by
    rcases hb with hb | hb | hb | hb
    · exact .inl (.inl hb)
    · exact .inl (.inr (.inl hb))
    · exact .inl (.inr (.inr (.inl hb)))
    · rcases g with g | ⟨x, g1, g2⟩
      · exact .inl (.inr (.inr (.inr (by rw [← g]; exact hb))))
      · rw [g1] at hb; injection hb with hb; subst hb; exact .inr g2)
/-- A block that no step turns. -/
def Safe (L : Lay) (v : Value) (g : Nat) : Prop := ¬ YP L v g
theorem Safe.step {L : Lay} {v v' : Value} {w : World} {g : Nat} (h : Safe L v g) (hg : Grew w v v') (hlt : g < w.heap.size) : Safe L v' g := by
  intro hy
  rcases hy with hy | hy | hy | hy
  · exact h (.inl hy)
  · exact h (.inr (.inl hy))
  · exact h (.inr (.inr (.inl hy)))
  · rcases hg with hg | ⟨x, g1, g2⟩
    · exact h (.inr (.inr (.inr (by rw [← hg]; exact hy))))
    · rw [g1] at hy; injection hy with hy; omega
section
variable {L : Lay} {l : List UInt8} {v : Value} {Fs : Nat → Prop} {w w' : World}
theorem PInv.lo (h : PInv L l v Fs w) (ok : L.OK) : ∀ k, YP L v k → L.B ≤ k := by
  rintro k (rfl | rfl | rfl | hk)
  · exact ok.ge.1
  · exact ok.ge.2.1
  · exact ok.ge.2.2
  · have := h.own k hk
    have := ok.lt.1
    have := ok.ge.1
    omega
theorem PInv.safe (h : PInv L l v Fs w) (ok : L.OK) {g : Nat} (hg : g < L.Bp) (h1 : g ≠ L.b ∧ g ≠ L.rt ∧ g ≠ L.rv) : Safe L v g := by
  rintro (e | e | e | e)
  · exact h1.1 e
  · exact h1.2.1 e
  · exact h1.2.2 e
  · have := h.own g e; omega
/-- A fresh block is safe. -/
theorem PInv.fresh (h : PInv L l v Fs w) (ok : L.OK) {g : Nat} (hg : w.heap.size ≤ g) : Safe L v g := by
  have := h.sz
  have := ok.lt
  rintro (e | e | e | e)
  · omega
  · omega
  · omega
  · have := (h.bd.row.lt g e).2; omega
/-- The parts that the builder and the replacers leave as they are. -/
theorem PInv.turn {l' : List UInt8} {v' : Value} {Fs' : Nat → Prop} (h : PInv L l v Fs w) (ok : L.OK) (ho : Off (YP L v) w w') (hg : Grew w v v') (hbd : IsB L.B L.b l' v' w') (h1 : IsRep L.rt (psQ false) Fs' w') (h2 : IsRep L.rv (psQ true) Fs' w')
    (hfs : ∀ k, Fs' k → k < w'.heap.size ∧ k ≠ L.b ∧ k ≠ L.rt ∧ k ≠ L.rv ∧ v'.ownBlock ≠ some k) : PInv L l' v' Fs' w' where
  vF := ho.keep h.vF (h.safe ok ok.lt.2.2.2.2.2.1 ok.nF)
  vt := ho.keep h.vt (h.safe ok ok.lt.2.1 ok.nt)
  vv := ho.keep h.vv (h.safe ok ok.lt.2.2.1 ok.nv)
  vk := ho.keep h.vk (h.safe ok ok.lt.2.2.2.1 ok.nk)
  vp := ho.keep h.vp (h.safe ok ok.lt.2.2.2.2.1 ok.np)
  rd := h.rd.keep nodeE_keeps (ho.toBelow (by have := h.sz; have := ok.lt.1; have := ok.ge.1; omega) (h.lo ok)) (Nat.le_refl _)
  bd := hbd
  r1 := h1
  r2 := h2
  fs := hfs
  own := fun g hgo => by
    rcases hg with hg | ⟨x, g1, g2⟩
    · exact h.own g (by rw [← hg]; exact hgo)
    · rw [g1] at hgo; injection hgo with e; subst e; exact Nat.le_trans h.sz g2
  sz := Nat.le_trans h.sz ho.size
theorem PInv.still (h : PInv L l v Fs w) (ok : L.OK) (ho : Off (fun _ => False) w w') : PInv L l v Fs w' :=
  have hk : ∀ k, k < w.heap.size → w'.heap[k]? = w.heap[k]? := fun k hk => ho.block k hk id
  h.turn ok (ho.mono (fun _ _ x => x.elim)) (Grew.refl _ _) (h.bd.keep (hk _ h.bd.lt) (fun g hg => hk g (h.bd.row.lt g hg).2))
    (h.r1.keep (hk _ (by have := ok.lt; have := h.sz; omega)) (fun k hf => hk k (h.fs k hf).1) (fun _ x => x)) (h.r2.keep (hk _ (by have := ok.lt; have := h.sz; omega)) (fun k hf => hk k (h.fs k hf).1) (fun _ x => x))
    (fun k hf => ⟨Nat.lt_of_lt_of_le (h.fs k hf).1 ho.size, (h.fs k hf).2⟩)
theorem PInv.alloc (h : PInv L l v Fs w) (ok : L.OK) (o : Obj) : PInv L l v Fs (w.alloc o) := h.still ok (Off.alloc _ _ _)
theorem PInv.drew (h : PInv L l v Fs w) (ok : L.OK) : PInv L l v Fs w.drew := h.still ok (Off.drew _ _)
end
/-- What a step leaves that prints p. -/
def PPost (L : Lay) (l p : List UInt8) (v : Value) (w w' : World) : Prop := ∃ v' Fs', PInv L (l ++ p) v' Fs' w' ∧ Off (YP L v) w w' ∧ Grew w v v'
theorem write_P (L : Lay) (ok : L.OK) (l : List UInt8) (v : Value) (Fs : Nat → Prop) (w : World) (h : PInv L l v Fs w) (s : ByteArray) (hl : l.length + s.size ≤ 140737488355328) :
    Calls Try.prog 71 #[.pointer (some ⟨L.b, 0, none⟩), .string s] w fun e w' => e = .returned (.tuple #[.int .i64 s.size, .nilIface]) ∧ PPost L l s.data.toList v w w' := by
  refine (WriteString_calls L.B L.b l v s w h.bd hl).mono ?_
  rintro e w' ⟨rfl, v', hb, ho, hg⟩
  have ho' : Off (YP L v) w w' := ho.mono (fun k _ hk => hk.elim .inl (fun x => .inr (.inr (.inr x))))
  have hkeep : ∀ k, k < w.heap.size → k ≠ L.b → v.ownBlock ≠ some k → w'.heap[k]? = w.heap[k]? := fun k h1 h2 h3 => ho.block k h1 (fun x => x.elim h2 h3)
  have hown : ∀ k, k < L.Bp → v.ownBlock ≠ some k := fun k hk e => by have := h.own k e; omega
  refine ⟨rfl, v', Fs, h.turn ok ho' hg hb ?_ ?_ (fun k hk => ?_), ho', hg⟩
  · exact h.r1.keep (hkeep _ (by have := ok.lt; have := h.sz; omega) (fun e => ok.ne.1 e.symm) (hown _ (by have := ok.lt; omega))) (fun k hk => hkeep k (h.fs k hk).1 (h.fs k hk).2.1 (h.fs k hk).2.2.2.2) (fun _ x => x)
  · exact h.r2.keep (hkeep _ (by have := ok.lt; have := h.sz; omega) (fun e => ok.ne.2.1 e.symm) (hown _ (by have := ok.lt; omega))) (fun k hk => hkeep k (h.fs k hk).1 (h.fs k hk).2.1 (h.fs k hk).2.2.2.2) (fun _ x => x)
  · have := h.fs k hk
    refine ⟨Nat.lt_of_lt_of_le this.1 ho.size, this.2.1, this.2.2.1, this.2.2.2.1, ?_⟩
    rcases hg with hg | ⟨x, g1, g2⟩
    · rw [hg]; exact this.2.2.2.2
    · rw [g1]; intro e; injection e with e; omega
theorem rep_P (L : Lay) (ok : L.OK) (q : Bool) (r : Nat) (hr : r = if q then L.rv else L.rt) (l : List UInt8) (v : Value) (Fs : Nat → Prop) (w : World) (h : PInv L l v Fs w) (s : ByteArray) (hs : s.size ≤ 1000) :
    Calls Try.prog 72 #[.pointer (some ⟨r, 0, none⟩), .string s] w fun e w' => e = .returned (.string ⟨(esc q s.data.toList).toArray⟩) ∧ ∃ Fs', PInv L l v Fs' w' ∧ Off (YP L v) w w' := by
  have hrep : IsRep r (psQ q) Fs w := by cases q; rw [hr]; exact h.r1; rw [hr]; exact h.r2
  have hrne : ∀ k, Fs k → k < w.heap.size ∧ k ≠ r := fun k hk => ⟨(h.fs k hk).1, by cases q; rw [hr]; exact (h.fs k hk).2.2.1; rw [hr]; exact (h.fs k hk).2.2.2.1⟩
  have hrY : YP L v r := by cases q; rw [hr]; exact .inr (.inl rfl); rw [hr]; exact .inr (.inr (.inl rfl))
  have hrb : L.b ≠ r := by cases q; rw [hr]; exact ok.ne.1; rw [hr]; exact ok.ne.2.1
  have hrl : r < L.Bp := by have := ok.lt; cases q <;> simp at hr <;> omega
  refine (Replace_calls w (psQ q) (psQ_good q) r Fs hrep hrne s hs).mono ?_
  rintro e w' ⟨rfl, F', hr', hF', ho⟩
  rw [psQ_rp]
  have ho' : Off (YP L v) w w' := ho.mono (fun k _ hk => by rw [hk]; exact hrY)
  have hkeep : ∀ k, k < w.heap.size → k ≠ r → w'.heap[k]? = w.heap[k]? := fun k h1 h2 => ho.block k h1 h2
  have hown : ∀ k, k < L.Bp → v.ownBlock ≠ some k := fun k hk e => by have := h.own k e; omega
  have hfs : ∀ k, (Fs k ∨ F' k) → k < w'.heap.size ∧ k ≠ L.b ∧ k ≠ L.rt ∧ k ≠ L.rv ∧ v.ownBlock ≠ some k := by
    have hsz := h.sz
    have hlt := ok.lt
    have old : ∀ k, Fs k → k < w'.heap.size ∧ k ≠ L.b ∧ k ≠ L.rt ∧ k ≠ L.rv ∧ v.ownBlock ≠ some k := fun k hk => ⟨Nat.lt_of_lt_of_le (h.fs k hk).1 ho.size, (h.fs k hk).2⟩
    rintro k (hk | hk)
    · exact old k hk
    · rcases (hF' k hk).1 with hk2 | hk2
      · exact old k hk2
      · refine ⟨(hF' k hk).2.1, by omega, by omega, by omega, fun e => ?_⟩
        have := (h.bd.row.lt k e).2
        omega
  have hbd : IsB L.B L.b l v w' := h.bd.keep (hkeep _ h.bd.lt hrb) (fun g hg => hkeep g (h.bd.row.lt g hg).2 (fun e => by have := h.own g hg; omega))
  have mine : IsRep r (psQ q) (fun k => Fs k ∨ F' k) w' := hr'.keep rfl (fun _ _ => rfl) (fun _ x => .inr x)
  refine ⟨rfl, _, h.turn ok ho' (Grew.refl _ _) hbd ?_ ?_ hfs, ho'⟩
  · cases q with
    | false => simp at hr; subst hr; exact mine
    | true => simp at hr; subst hr; exact h.r1.keep (hkeep _ (by have := ok.lt; have := h.sz; omega) ok.ne.2.2) (fun k hk => hkeep k (h.fs k hk).1 (h.fs k hk).2.2.2.1) (fun _ x => .inl x)
  · cases q with
    | true => simp at hr; subst hr; exact mine
    | false => simp at hr; subst hr; exact h.r2.keep (hkeep _ (by have := ok.lt; have := h.sz; omega) (fun e => ok.ne.2.2 e.symm)) (fun k hk => hkeep k (h.fs k hk).1 (h.fs k hk).2.2.1) (fun _ x => .inl x)
end Go.Proofs.Ytbbompmpecblgaa.Pr
