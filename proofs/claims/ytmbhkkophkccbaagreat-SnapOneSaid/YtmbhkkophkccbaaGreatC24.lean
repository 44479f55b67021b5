import Derived.Test.YtmbhkkophkccbaaGreatC22
import Derived.Test.YtmbhkkophkccbaaGreatC14
import Derived.Test.YtmbhkkophkccbaaGreatC15
section
namespace Go.Proofs.YtmbhkkophkccbaaGreat.Pa
open Go Go.RowKit WS FS Fn
set_option linter.unusedVariables false
section
variable {s : ByteArray}
theorem next_lt {a : Nat} {c : UInt8} (h : nextB s a = c) (hc : c ≠ 0) : a < s.size := by
 by_cases ha : a < s.size
 ·exact ha
 ·rw [next_no ha] at h
  exact absurd h.symm hc
theorem name_err {a e : Nat} (h : nameP s a = .error e) (ha : a ≤ s.size) : e ≤ s.size := by
 have he := end_le (s := s) (p := nmB) (a := a) ha
 unfold nameP at h
 split at h
 ·split at h
  ·cases h
  ·injection h with h
   omega
 ·injection h with h
  omega
theorem value_err {a e : Nat} (h : valueP s a = .error e) (ha : a ≤ s.size) : e ≤ s.size := by
 unfold valueP at h
 split at h
 ·rename_i ht
  have hlt := (took_lt ht).1
  have he := end_le (s := s) (p := quoB) (a := a + 1) (by omega)
  split at h
  ·cases h
  ·injection h with h
   omega
 ·exact name_err h ha
theorem end_err {a e : Nat} {t : Tst} (h : endP s a t = .error e) (ha : a ≤ s.size) : e ≤ s.size := by
 unfold endP at h
 split at h
 ·cases h
 ·injection h with h
  omega
theorem brackets_err {a e : Nat} (h : bracketsP s a = .error e) (ha : a ≤ s.size) : e ≤ s.size := by
 have h1 := end_le (s := s) (p := blkB) (a := a) ha
 unfold bracketsP at h
 cases hN : nameP s (endOf s blkB a) with
 | error e' =>
  rw [hN] at h
  simp only at h
  injection h with h
  have := name_err hN h1.2
  omega
 | ok x =>
  rw [hN] at h
  simp only at h
  have h2 := name_ok hN h1.2
  have h3 := end_le (s := s) (p := blkB) (a := x.2) h2.2.2
  split at h
  ·rename_i ht
   have hlt := (took_lt ht).1
   have h4 := end_le (s := s) (p := blkB) (a := endOf s blkB x.2 + 1) (by omega)
   cases hV : valueP s (endOf s blkB (endOf s blkB x.2 + 1)) with
   | error e' =>
    rw [hV] at h
    simp only at h
    injection h with h
    have := value_err hV h4.2
    omega
   | ok y =>
    rw [hV] at h
    simp only at h
    have h5 := value_ok hV h4.2
    exact end_err h (end_le (s := s) (p := blkB) (a := y.2) h5.2.2).2
  ·exact end_err h h3.2
theorem comp_err {beg : Nat} : ∀ (n : Nat) (c : List Tst) (b : Nat) {e : Nat}, compLoop s beg n c b = .error e → b ≤ s.size → e ≤ s.size
 | 0, c, b, e, h, hb => by rw [compLoop] at h; injection h with h; omega
 | n + 1, c, b, e, h, hb => by
  rw [compLoop] at h
  split at h
  ·rename_i hc
   have hlt := next_lt hc (by decide)
   cases hN : nameP s (b + 1) with
   | error e' => rw [hN] at h; simp only at h; injection h with h; have := name_err hN (by omega); omega
   | ok x => rw [hN] at h; simp only at h; exact comp_err n _ _ h (name_ok hN (by omega)).2.2
  ·split at h
   ·rename_i hc
    have hlt := next_lt hc (by decide)
    cases hN : nameP s (b + 1) with
    | error e' => rw [hN] at h; simp only at h; injection h with h; have := name_err hN (by omega); omega
    | ok x => rw [hN] at h; simp only at h; exact comp_err n _ _ h (name_ok hN (by omega)).2.2
   ·split at h
    ·rename_i hc
     have hlt := next_lt hc (by decide)
     cases hN : bracketsP s (b + 1) with
     | error e' => rw [hN] at h; simp only at h; injection h with h; have := brackets_err hN (by omega); omega
     | ok x => rw [hN] at h; simp only at h; exact comp_err n _ _ h (brackets_ok hN (by omega)).2.2
    ·split at h
     ·injection h with h; omega
     ·cases h
theorem compound_err {a e : Nat} (h : compoundP s a = .error e) (ha : a ≤ s.size) : e ≤ s.size := by
 unfold compoundP at h
 split at h
 ·rename_i ht
  have hlt := (took_lt ht).1
  exact comp_err _ _ _ h (by omega)
 ·split at h
  ·cases hN : nameP s a with
   | error e' => rw [hN] at h; simp only at h; injection h with h; have := name_err hN ha; omega
   | ok x => rw [hN] at h; simp only at h; exact comp_err _ _ _ h (name_ok hN ha).2.2
  ·exact comp_err _ _ _ h ha
theorem row_err_loop : ∀ (n : Nat) (l : Sro) (c : Bool) (b : Nat) {e : Nat}, rowLoop s n l c b = .error e → b ≤ s.size → e ≤ s.size
 | 0, l, c, b, e, h, hb => by rw [rowLoop] at h; injection h with h; omega
 | n + 1, l, c, b, e, h, hb => by
  rw [rowLoop] at h
  cases hN : compoundP s b with
  | error e' => rw [hN] at h; simp only at h; injection h with h; have := compound_err hN hb; omega
  | ok x =>
   rw [hN] at h
   simp only at h
   have h2 := compound_ok hN hb
   have h3 := end_le (s := s) (p := blkB) (a := x.2) h2.2.1
   split at h
   ·cases h
   ·split at h
    ·rename_i ht
     have hlt := (took_lt ht).1
     exact row_err_loop n _ _ _ h (end_le (s := s) (p := blkB) (a := endOf s blkB x.2 + 1) (by omega)).2
    ·split at h
     ·exact row_err_loop n _ _ _ h h3.2
     ·injection h with h; omega
theorem row_err {a e : Nat} (h : rowP s a = .error e) (ha : a ≤ s.size) : e ≤ s.size := by
 unfold rowP at h
 exact row_err_loop _ _ _ _ h (end_le (s := s) (p := blkB) (a := a) ha).2
theorem parse_err_loop : ∀ (n : Nat) (l : Sel) (a : Nat) {e : Nat}, parseLoop s n l a = .error e → a ≤ s.size → e ≤ s.size
 | 0, l, a, e, h, ha => by rw [parseLoop] at h; injection h with h; omega
 | n + 1, l, a, e, h, ha => by
  rw [parseLoop] at h
  cases hN : rowP s a with
  | error e' => rw [hN] at h; simp only at h; injection h with h; have := row_err hN ha; omega
  | ok x =>
   rw [hN] at h
   simp only at h
   split at h
   ·rename_i ht
    have hlt := (took_lt ht).1
    exact parse_err_loop n _ _ h (by omega)
   ·cases h
theorem parse_err {e : Nat} (h : parseP s = .error e) : e ≤ s.size := parse_err_loop _ _ _ h (Nat.zero_le _)
end
end Go.Proofs.YtmbhkkophkccbaaGreat.Pa
end
section
namespace Go.Proofs.YtmbhkkophkccbaaGreat.FS
open Go.Proofs.YtmbhkkophkccbaaGreat.WS
set_option linter.unusedVariables false
def dA : List Opn := [{ kind := 1, name := ⟨#[97]⟩ }, { kind := 4, id := 1 }]
def dB : List Opn := [{ kind := 4, id := 1, «to» := 1 }]
theorem zA1 : oneE newFo { kind := 1, name := ⟨#[97]⟩ } = 0 := by
 unfold oneE checks
 rw [if_pos (by decide), if_pos rfl]
 decide
theorem zA2 : oneE d1 { kind := 4, id := 1 } = 0 := by
 unfold oneE checks
 rw [if_pos (by decide), if_neg (by decide), if_neg (by decide), if_pos rfl]
 simp only [b1]
 decide
theorem bB : belowB d2 1 1 = true := (below_iff m2 (by decide)).2 ⟨by decide, 0, rfl⟩
theorem zB : oneE d2 { kind := 4, id := 1, «to» := 1 } = 72 := by
 unfold oneE checks
 rw [if_pos (by decide), if_neg (by decide), if_neg (by decide), if_pos rfl]
 simp only [bB]
 decide
theorem dA_all : allE newFo dA = 0 ∧ allN newFo dA = 2 ∧ allF newFo dA = d2 := by
 have h1 : allE newFo dA = 0 := by
  unfold dA
  rw [allE, if_pos zA1, e1, allE, if_pos zA2, e2, allE]
 refine ⟨h1, ?_, ?_⟩
 ·unfold dA
  rw [allN, if_pos zA1, e1, allN, if_pos zA2, e2, allN]
 ·unfold allF
  rw [if_pos h1]
  unfold dA
  rw [allG, if_pos zA1, e1, allG, if_pos zA2, e2, allG]
theorem dB_all : allE d2 dB = 72 ∧ allN d2 dB = 0 := by
 unfold dB
 rw [allE, allN, zB]
 decide
theorem dA_print : printF d2 0 = [60, 97, 62, 60, 47, 97, 62] := by
 have hf := may_family m2
 have hc := may_climbs m2
 unfold printF
 rw [if_pos ⟨m2, by decide⟩, printL_eq hf hc (by decide)]
 rw [show (at_ d2 0).kids = [1] by decide, List.flatMap_cons, List.flatMap_nil, printL_eq hf hc (by decide)]
 rw [show (at_ d2 1).kids = [] by decide, List.flatMap_nil]
 decide
end Go.Proofs.YtmbhkkophkccbaaGreat.FS
end
section
namespace Go.Proofs.YtmbhkkophkccbaaGreat.S13
open Go Go.RowKit WS FS Fn Pa Grown
set_option linter.unusedVariables false
def sOps : List Opn := [{ kind := 1, name := ⟨#[97]⟩ }, { kind := 4, id := 1 }, { kind := 2, text := ⟨#[120]⟩ }, { kind := 4, id := 2, «to» := 1 }]
def s3 : Fo := [⟨0, ⟨#[]⟩, ⟨#[]⟩, [], -1, [1]⟩, ⟨1, ⟨#[97]⟩, ⟨#[]⟩, [], 0, []⟩, ⟨2, ⟨#[]⟩, ⟨#[120]⟩, [], -1, []⟩]
def s4 : Fo := [⟨0, ⟨#[]⟩, ⟨#[]⟩, [], -1, [1]⟩, ⟨1, ⟨#[97]⟩, ⟨#[]⟩, [], 0, [2]⟩, ⟨2, ⟨#[]⟩, ⟨#[120]⟩, [], 1, []⟩]
theorem k3 : oneF d2 { kind := 2, text := ⟨#[120]⟩ } = s3 := one_do (by
 unfold oneE checks
 rw [if_pos (by decide), if_neg (by decide), if_pos (by decide)]
 decide) (by decide)
theorem n3 : mayB s3 = true := by rw [← k3]; exact one_may m2 _
theorem h3 : belowB s3 2 1 = false := below_eq n3 (by decide) ⟨fun h => by
 rw [belowP_step (by decide) (by decide), show (at_ s3 1).parent = 0 by decide, belowP_step (by decide) (by decide)] at h
 exact absurd h (belowP_end (by decide)), fun h => by cases h⟩
theorem k4 : oneF s3 { kind := 4, id := 2, «to» := 1 } = s4 := one_do (by
 unfold oneE checks
 rw [if_pos (by decide), if_neg (by decide), if_neg (by decide), if_pos rfl]
 simp only [h3]
 decide) (by decide)
theorem n4 : mayB s4 = true := by rw [← k4]; exact one_may n3 _
theorem s_grow : growF sOps = s4 := by
 show oneF (oneF (oneF (oneF newFo _) _) _) _ = s4
 rw [e1, e2, k3, k4]
theorem s_print : printF s4 0 = [60, 97, 62, 120, 60, 47, 97, 62] := by
 have hf := may_family n4
 have hc := may_climbs n4
 unfold printF
 rw [if_pos ⟨n4, by decide⟩, printL_eq hf hc (by decide)]
 rw [show (at_ s4 0).kids = [1] by decide, List.flatMap_cons, List.flatMap_nil, printL_eq hf hc (by decide)]
 rw [show (at_ s4 1).kids = [2] by decide, List.flatMap_cons, List.flatMap_nil, printL_eq hf hc (by decide)]
 rw [show (at_ s4 2).kids = [] by decide, List.flatMap_nil]
 decide
theorem s_parse : parseP ⟨#[97, 44, 44]⟩ = .error 2 := by kernel_rfl
end Go.Proofs.YtmbhkkophkccbaaGreat.S13
end
section
namespace Go.Proofs.YtmbhkkophkccbaaGreat.Hs
open Go.Proofs.YtmbhkkophkccbaaGreat.WS Go.Proofs.YtmbhkkophkccbaaGreat.FS
set_option linter.unusedVariables false
structure Qy where
 kind : Int := 0
 id : Int := 0
 by_ : Int := 0
 text : ByteArray := ⟨#[]⟩
structure An where
 nums : List Int := []
 text : ByteArray := ⟨#[]⟩
 e : Int := 0
structure Cl where
 kind : Int := 0
 ops : List Opn := []
 q : Qy := {}
abbrev Cls := List (List Cl)
structure En where
 item : Nat := 0
 e : Int := 0
 place : Int := 0
structure Dn where
 e : Int := 0
 place : Int := 0
 version : Nat := 0
structure Ev where
 cl : Int := 0
 call : Int := 0
 begin_ : Int := 0
 end_ : Int := 0
 done : Dn := {}
 ans : An := {}
def itemC (x : Nat) : Nat := x / 65536
def itemA (x : Nat) : Nat := x % 65536
def callP (l : Cls) (i a : Int) : Option Cl := if 0 ≤ i ∧ 0 ≤ a then (l[i.toNat]?).bind (fun r => r[a.toNat]?) else none
def okC (o : Option Cl) (n a : Int) : Bool := match o with | none => false | some c => c.kind == 1 && decide (n ≤ a)
def subB (l : Cls) (nx : Int → Int) (x : En) : Bool := okC (callP l (itemC x.item) (itemA x.item)) (nx (itemC x.item)) (itemA x.item)
def upd (nx : Int → Int) (x : En) : Int → Int := fun k => if k = itemC x.item then itemA x.item + 1 else nx k
def ordL (l : Cls) : (Int → Int) → List En → Bool
 | _, [] => true
 | nx, x :: r => subB l nx x && ordL l (upd nx x) r
def ordB (l : Cls) (log : List En) : Bool := ordL l (fun _ => 0) log
theorem ord_seen {l : Cls} {x : En} : ∀ (b c : List En) (nx : Int → Int), (itemA x.item : Int) < nx (itemC x.item) → ordL l nx (b ++ x :: c) = false
 | [], c, nx, h => by
  rw [List.nil_append, ordL]
  have : subB l nx x = false := by
   unfold subB okC
   cases callP l (itemC x.item) (itemA x.item) with
   | none => rfl
   | some d => simp; intro _; omega
  rw [this, Bool.false_and]
 | y :: b, c, nx, h => by
  rw [List.cons_append, ordL]
  cases hs : subB l nx y with
  | false => rfl
  | true =>
   rw [Bool.true_and]
   refine ord_seen b c _ ?_
   unfold upd
   split
   ·rename_i he
    unfold subB okC at hs
    cases hc : callP l (itemC y.item) (itemA y.item) with
    | none => rw [hc] at hs; cases hs
    | some d =>
     rw [hc] at hs
     simp at hs
     rw [he] at h
     omega
   ·exact h
theorem ord_twice {l : Cls} {x : En} (b c : List En) : ∀ (a : List En) (nx : Int → Int), ordL l nx (a ++ x :: (b ++ x :: c)) = false
 | [], nx => by rw [List.nil_append, ordL, ord_seen b c _ (by unfold upd; rw [if_pos rfl]; omega), Bool.and_false]
 | y :: a, nx => by rw [List.cons_append, ordL, ord_twice b c a, Bool.and_false]
theorem split_at {α : Type} {l : List α} {i : Nat} (h : i < l.length) : l = l.take i ++ l[i] :: l.drop (i + 1) := by
 rw [← List.drop_eq_getElem_cons h, List.take_append_drop]
theorem ord_more {l : Cls} {log : List En} {i k : Nat} (hi : i < log.length) (hk : k ≤ log.length) : ordB l (log.take k ++ log[i] :: log.drop k) = false := by
 unfold ordB
 by_cases h : i < k
 ·have hl : i < (log.take k).length := by rw [List.length_take]; omega
  have h1 := split_at hl
  rw [List.getElem_take] at h1
  rw [h1, List.append_assoc, List.cons_append]
  exact ord_twice _ _ _ _
 ·have hl : i - k < (log.drop k).length := by rw [List.length_drop]; omega
  have h1 := split_at hl
  have h2 : (log.drop k)[i - k] = log[i] := by rw [List.getElem_drop]; congr 1; omega
  rw [h2] at h1
  rw [h1]
  exact ord_twice _ _ _ _
def opsOf (l : Cls) (x : En) : List Opn := ((callP l (itemC x.item) (itemA x.item)).getD {}).ops
def badE (x : En) (n e : Int) : Prop := x.place ≠ n ∨ x.e ≠ e ∧ ¬ (x.e = 2 ∧ e = 0)
instance (x : En) (n e : Int) : Decidable (badE x n e) := by unfold badE; infer_instance
noncomputable def stepF (l : Cls) (f : Fo) (x : En) : Fo := if x.e = 0 then allF f (opsOf l x) else f
noncomputable def stA (l : Cls) : Fo → List Fo → List En → List Fo × Int
 | _, acc, [] => (acc, 0)
 | f, acc, x :: r => if badE x (allN f (opsOf l x)) (allE f (opsOf l x)) then ([], 2) else stA l (stepF l f x) (acc ++ [stepF l f x]) r
noncomputable def statesP (l : Cls) (log : List En) : List Fo × Int := if ordB l log = false then ([], 1) else stA l newFo [newFo] log
theorem step_may {l : Cls} {f : Fo} (hm : mayB f = true) (x : En) : mayB (stepF l f x) = true := by
 unfold stepF
 split
 ·exact allF_may hm _
 ·exact hm
theorem st_facts {l : Cls} : ∀ (r : List En) (f : Fo) (acc : List Fo), mayB f = true → (∀ g ∈ acc, mayB g = true) → acc ≠ [] → acc.getLast? = some f → (stA l f acc r).2 ≠ 0 ∧ (stA l f acc r) = ([], 2) ∨ (stA l f acc r).2 = 0 ∧
  (stA l f acc r).1.length = acc.length + r.length ∧ (∀ g ∈ (stA l f acc r).1, mayB g = true) ∧ (∀ i, i < acc.length → (stA l f acc r).1[i]? = acc[i]?) ∧ ∀ i (h : i < r.length), r[i].e ≠ 0 → (stA l f acc r).1[acc.length + i]? = (stA l f acc r).1[acc.length + i - 1]?
 | [], f, acc, hm, ha, hn, hl => by
  right
  exact ⟨rfl, rfl, ha, fun i _ => rfl, fun i h => by cases h⟩
 | x :: r, f, acc, hm, ha, hn, hl => by
  rw [stA]
  split
  ·left
   exact ⟨by decide, rfl⟩
  ·have hpos : 0 < acc.length := List.length_pos_iff.2 hn
   have ih := st_facts (l := l) r (stepF l f x) (acc ++ [stepF l f x]) (step_may hm x) (fun g hg => by
    rw [List.mem_append, List.mem_singleton] at hg
    rcases hg with hg | rfl
    ·exact ha g hg
    ·exact step_may hm x) (by simp) (by simp)
   rcases ih with ih | ⟨h1, h2, h3, h4, h5⟩
   ·exact .inl ih
   ·right
    rw [List.length_append, List.length_singleton] at h2 h4 h5
    refine ⟨h1, by rw [h2, List.length_cons]; omega, h3, fun i hi => by rw [h4 i (by omega), List.getElem?_append_left hi], fun i hi he => ?_⟩
    match i with
    | 0 =>
     rw [Nat.add_zero, h4 _ (by omega), h4 _ (by omega), List.getElem?_append_right (by omega), List.getElem?_append_left (by omega), Nat.sub_self]
     rw [List.getLast?_eq_getElem?] at hl
     rw [hl]
     have : x.e ≠ 0 := he
     show some (stepF l f x) = some f
     unfold stepF
     rw [if_neg this]
    | i + 1 =>
     have h6 := h5 i (by simpa using hi) (by simpa using he)
     rw [show acc.length + (i + 1) = acc.length + 1 + i by omega]
     exact h6
theorem states_facts (l : Cls) (log : List En) : (statesP l log).2 = 0 ∧ (statesP l log).1.length = log.length + 1 ∧ (∀ g ∈ (statesP l log).1, mayB g = true) ∧ (∀ i (h : i < log.length), log[i].e ≠ 0 → (statesP l log).1[i + 1]? = (statesP l log).1[i]?) ∨
  ((statesP l log).2 = 1 ∨ (statesP l log).2 = 2) ∧ (statesP l log).1 = [] := by
 unfold statesP
 split
 ·exact .inr ⟨.inl rfl, rfl⟩
 ·rcases st_facts (l := l) log newFo [newFo] new_may (fun g hg => by rw [List.mem_singleton] at hg; subst hg; exact new_may) (by simp) rfl with ⟨_, h⟩ | ⟨h1, h2, h3, _, h5⟩
  ·rw [h]
   exact .inr ⟨.inr rfl, rfl⟩
  ·refine .inl ⟨h1, by rw [h2, List.length_singleton]; omega, h3, fun i hi he => ?_⟩
   have := h5 i hi he
   rw [List.length_singleton, show 1 + i = i + 1 by omega, Nat.add_sub_cancel] at this
   exact this
end Go.Proofs.YtmbhkkophkccbaaGreat.Hs
end
section
namespace Go.Proofs.YtmbhkkophkccbaaGreat.Shapes
open Go Go.RowKit Go.Deep Rd FS Hs
set_option linter.unusedVariables false
def QyOk (q : Qy) : Prop := q.text.size ≤ maxLen ∧ (Lit.int .i64 q.kind).wf = true ∧ (Lit.int .i64 q.id).wf = true ∧ (Lit.int .i64 q.by_).wf = true
def queryE : Elem Qy := fun _ _ cs q => cs = [.int .i64 q.kind, .int .i64 q.id, .int .i64 q.by_, .string q.text] ∧ QyOk q
def clC (vo : Value) (c : Cl) : List Value := [.int .i64 c.kind, vo, .int .i64 c.q.kind, .int .i64 c.q.id, .int .i64 c.q.by_, .string c.q.text]
def callE : Elem Cl := fun B w cs c => ∃ vo, cs = clC vo c ∧ RdO B w vo c.ops ∧ (Lit.int .i64 c.kind).wf = true ∧ QyOk c.q
theorem callE_keeps : callE.Keeps := fun B B' w w' cs c ⟨vo, h1, h2, h3⟩ hb hB => ⟨vo, h1, h2.keep opE_keeps hb hB, h3⟩
def rowCE : Elem (List Cl) := fun B w cs r => ∃ v, cs = [v] ∧ RdL callE 6 B w v r
theorem rowCE_keeps : rowCE.Keeps := fun B B' w w' cs r ⟨v, h1, h2⟩ hb hB => ⟨v, h1, h2.keep callE_keeps hb hB⟩
abbrev RdCs := RdL rowCE 1
def enC (x : En) : List Value := [.int .u64 x.item, .int .i64 x.e, .int .i64 x.place]
def EnOk (x : En) : Prop := x.item < 18446744073709551616 ∧ (Lit.int .i64 x.e).wf = true ∧ (Lit.int .i64 x.place).wf = true
def entE : Elem En := fun _ _ cs x => cs = enC x ∧ EnOk x
theorem entE_keeps : entE.Keeps := fun _ _ _ _ _ _ h _ _ => h
abbrev RdLog := RdL entE 3
def evC (va : Value) (x : Ev) : List Value := [.int .i64 x.cl, .int .i64 x.call, .int .i64 x.begin_, .int .i64 x.end_, .int .i64 x.done.e, .int .i64 x.done.place, .int .u64 x.done.version, va, .string x.ans.text, .int .i64 x.ans.e]
def EvOk (x : Ev) : Prop := x.done.version < 18446744073709551616 ∧ (Lit.int .i64 x.cl).wf = true ∧ (Lit.int .i64 x.call).wf = true ∧ (Lit.int .i64 x.begin_).wf = true ∧ (Lit.int .i64 x.end_).wf = true
def evE : Elem Ev := fun B w cs x => ∃ va, cs = evC va x ∧ RdL (intE .i64) 1 B w va x.ans.nums ∧ EvOk x
theorem evE_keeps : evE.Keeps := fun B B' w w' cs c ⟨vo, h1, h2, h3⟩ hb hB => ⟨vo, h1, h2.keep (intE_keeps _) hb hB, h3⟩
abbrev RdEvs := RdL evE 10
def forE : Elem Fo := fun B w cs f => ∃ v, cs = [v] ∧ RdF B w v f
theorem forE_keeps : forE.Keeps := fun B B' w w' cs r ⟨v, h1, h2⟩ hb hB => ⟨v, h1, h2.keep nodeE_keeps hb hB⟩
abbrev RdFs := RdL forE 1
section
variable {H : Type} {enc : TypeId × Value → H} {P : Program} {w : World} {base : Nat} {spare : Nat → Bool} {held : Bool}
theorem opens_query {e : TypeId} {f0 f1 f2 f3 : Field} (hs : P.underlying e = some (.struct #[f0, f1, f2, f3])) (hone : oneCellFields P #[f0, f1, f2, f3] = true) (hC : P.cellsOf e = 4)
  (h0 : P.underlying f0.type = some (.int .i64)) (h1 : P.underlying f1.type = some (.int .i64)) (h2 : P.underlying f2.type = some (.int .i64)) (h3 : P.underlying f3.type = some .string) :
  Opens enc P w base spare held e queryE := fun fuel cs x h => by
 obtain ⟨xs, n, _, hx, hlc, hlen, hg⟩ := DataW.trod_struct hs h
 rw [hC] at hlc
 match cs, hlc with
 | [c0, c1, c2, c3], _ =>
  obtain ⟨o0, k0⟩ := hone_of hone 0 f0 rfl
  obtain ⟨o1, k1⟩ := hone_of hone 1 f1 rfl
  obtain ⟨o2, k2⟩ := hone_of hone 2 f2 rfl
  obtain ⟨o3, k3⟩ := hone_of hone 3 f3 rfl
  match xs, hlen with
  | [y0, y1, y2, y3], _ =>
   have g0 := hg 0 f0 rfl
   have g1 := hg 1 f1 rfl
   have g2 := hg 2 f2 rfl
   have g3 := hg 3 f3 rfl
   simp [o0, k0] at g0
   simp [o1, k1] at g1
   simp [o2, k2] at g2
   simp [o3, k3] at g3
   obtain ⟨z0, e0, _, m0⟩ := DataW.trod_int h0 g0
   obtain ⟨z1, e1, _, m1⟩ := DataW.trod_int h1 g1
   obtain ⟨z2, e2, _, m2⟩ := DataW.trod_int h2 g2
   obtain ⟨z3, e3, _, m3⟩ := DataW.trod_string h3 g3
   simp at e0 e1 e2 e3
   exact ⟨⟨z0, z1, z2, z3⟩, by rw [e0, e1, e2, e3], m3, m0, m1, m2⟩
theorem opens_call {e eo : TypeId} {f0 f1 f2 : Field} (hs : P.underlying e = some (.struct #[f0, f1, f2])) (hC : P.cellsOf e = 6) (o0 : f0.offset = 0) (o1 : f1.offset = 1) (o2 : f2.offset = 2) (k0 : P.cellsOf f0.type = 1) (k1 : P.cellsOf f1.type = 1) (k2 : P.cellsOf f2.type = 4)
  (h0 : P.underlying f0.type = some (.int .i64)) (h1 : P.underlying f1.type = some (.slice eo)) (heo : P.cellsOf eo = 6) (hoo : Opens enc P w base spare held eo opE) (hq : Opens enc P w base spare held f2.type queryE) :
  Opens enc P w base spare held e callE := fun fuel cs x h => by
 obtain ⟨xs, n, _, hx, hlc, hlen, hg⟩ := DataW.trod_struct hs h
 rw [hC] at hlc
 match cs, hlc with
 | [c0, c1, c2, c3, c4, c5], _ =>
  match xs, hlen with
  | [y0, y1, y2], _ =>
   have g0 := hg 0 f0 rfl
   have g1 := hg 1 f1 rfl
   have g2 := hg 2 f2 rfl
   simp [o0, k0] at g0
   simp [o1, k1] at g1
   simp [o2, k2] at g2
   obtain ⟨z0, e0, _, m0⟩ := DataW.trod_int h0 g0
   obtain ⟨l1, v1, e1, m1⟩ := opens_slice 6 h1 heo (by omega) hoo _ _ _ g1
   obtain ⟨q, e2, m2⟩ := hq _ _ _ g2
   simp at e0 e1 e2
   obtain ⟨e2, e3, e4, e5⟩ := e2
   exact ⟨⟨z0, l1, q⟩, v1, by rw [e0, e1, e2, e3, e4, e5]; rfl, m1, m0, m2⟩
theorem opens_entry {e : TypeId} {f0 f1 f2 : Field} (hs : P.underlying e = some (.struct #[f0, f1, f2])) (hone : oneCellFields P #[f0, f1, f2] = true) (hC : P.cellsOf e = 3)
  (h0 : P.underlying f0.type = some (.int .u64)) (h1 : P.underlying f1.type = some (.int .i64)) (h2 : P.underlying f2.type = some (.int .i64)) :
  Opens enc P w base spare held e entE := fun fuel cs x h => by
 obtain ⟨xs, n, _, hx, hlc, hlen, hg⟩ := DataW.trod_struct hs h
 rw [hC] at hlc
 match cs, hlc with
 | [c0, c1, c2], _ =>
  obtain ⟨o0, k0⟩ := hone_of hone 0 f0 rfl
  obtain ⟨o1, k1⟩ := hone_of hone 1 f1 rfl
  obtain ⟨o2, k2⟩ := hone_of hone 2 f2 rfl
  match xs, hlen with
  | [y0, y1, y2], _ =>
   have g0 := hg 0 f0 rfl
   have g1 := hg 1 f1 rfl
   have g2 := hg 2 f2 rfl
   simp [o0, k0] at g0
   simp [o1, k1] at g1
   simp [o2, k2] at g2
   obtain ⟨z0, e0, _, m0⟩ := DataW.trod_int h0 g0
   obtain ⟨z1, e1, _, m1⟩ := DataW.trod_int h1 g1
   obtain ⟨z2, e2, _, m2⟩ := DataW.trod_int h2 g2
   simp at e0 e1 e2
   have hz : 0 ≤ z0 ∧ z0 < 18446744073709551616 := by
    simp only [Lit.wf, Bool.and_eq_true, decide_eq_true_eq] at m0
    have e1 : IntKind.u64.min = 0 := rfl
    have e2 : IntKind.u64.max = 18446744073709551615 := rfl
    omega
   refine ⟨⟨z0.toNat, z1, z2⟩, ?_, by show z0.toNat < _; omega, m1, m2⟩
   rw [e0, e1, e2]
   show [_, _, _] = [Value.int .u64 (z0.toNat : Int), _, _]
   rw [Int.toNat_of_nonneg hz.1]
theorem opens_snap_Query {enc : TypeId × Value → H} {w : World} : Opens enc Tryz.prog w base spare held 69 queryE :=
 opens_query Tryz.underlying69 (by kernel_rfl) (by kernel_rfl) Tryz.underlying3 Tryz.underlying3 Tryz.underlying3 Tryz.underlying9
theorem opens_client_Call {enc : TypeId × Value → H} {w : World} : Opens enc Tryz.prog w base spare held 158 callE :=
 opens_call Tryz.underlying158 (by kernel_rfl) rfl rfl rfl (by kernel_rfl) (by kernel_rfl) (by kernel_rfl) Tryz.underlying3 Tryz.underlying22 (by kernel_rfl) opens_op_Op opens_snap_Query
theorem opens_client_Calls {enc : TypeId × Value → H} {w : World} : Opens enc Tryz.prog w base spare held 93 rowCE :=
 opens_slice 6 Tryz.underlying93 (by kernel_rfl) (by decide) opens_client_Call
theorem opens_writer_Entry {enc : TypeId × Value → H} {w : World} : Opens enc Tryz.prog w base spare held 87 entE :=
 opens_entry Tryz.underlying87 (by kernel_rfl) (by kernel_rfl) Tryz.underlying85 Tryz.underlying64 Tryz.underlying3
end
theorem row_atC {B : Nat} {w : World} {A : Option Addr} {n c : Nat} {l : Cls} (h : RdCs B w (.slice A n c) l) {i : Nat} (hi : i < l.length) :
  ∃ (b o : Nat) (At : Option Addr) (ct : Nat), A = some ⟨b, o, none⟩ ∧ b < B ∧ w.cell? ⟨b, o + i, none⟩ = some (.slice At l[i].length ct) ∧ RdL callE 6 B w (.slice At l[i].length ct) l[i] ∧ l[i].length ≤ ct ∧ ct ≤ maxLen := by
 obtain ⟨b, o, cs, e, hb, _, hc, v, rfl, hr⟩ := h.at_ hi
 obtain ⟨At, ct, rfl, h1, h2, hr'⟩ := hr.form
 have := hc 0 _ rfl
 rw [Nat.mul_one, Nat.add_zero] at this
 exact ⟨b, o, At, ct, e, hb, this, hr', h1, h2⟩
theorem call_at {B : Nat} {w : World} {A : Option Addr} {n c : Nat} {l : List Cl} (h : RdL callE 6 B w (.slice A n c) l) {i : Nat} (hi : i < l.length) :
  ∃ (b o : Nat) (Ao : Option Addr) (co : Nat), A = some ⟨b, o, none⟩ ∧ b < B ∧ w.cell? ⟨b, o + i * 6, none⟩ = some (.int .i64 l[i].kind) ∧ w.cell? ⟨b, o + i * 6 + 1, none⟩ = some (.slice Ao l[i].ops.length co) ∧ w.cell? ⟨b, o + i * 6 + 2, none⟩ = some (.int .i64 l[i].q.kind) ∧
   w.cell? ⟨b, o + i * 6 + 3, none⟩ = some (.int .i64 l[i].q.id) ∧ w.cell? ⟨b, o + i * 6 + 4, none⟩ = some (.int .i64 l[i].q.by_) ∧ w.cell? ⟨b, o + i * 6 + 5, none⟩ = some (.string l[i].q.text) ∧ RdO B w (.slice Ao l[i].ops.length co) l[i].ops ∧ co ≤ maxLen ∧ QyOk l[i].q := by
 obtain ⟨b, o, cs, e, hb, _, hc, v, rfl, hr, hk, hq⟩ := h.at_ hi
 obtain ⟨At, ct, rfl, h1, h2, hr'⟩ := hr.form
 exact ⟨b, o, At, ct, e, hb, hc 0 _ rfl, hc 1 _ rfl, hc 2 _ rfl, hc 3 _ rfl, hc 4 _ rfl, hc 5 _ rfl, hr', h2, hq⟩
theorem ent_at {B : Nat} {w : World} {A : Option Addr} {n c : Nat} {l : List En} (h : RdLog B w (.slice A n c) l) {i : Nat} (hi : i < l.length) :
  ∃ (b o : Nat), A = some ⟨b, o, none⟩ ∧ b < B ∧ w.cell? ⟨b, o + i * 3, none⟩ = some (.int .u64 l[i].item) ∧ w.cell? ⟨b, o + i * 3 + 1, none⟩ = some (.int .i64 l[i].e) ∧ w.cell? ⟨b, o + i * 3 + 2, none⟩ = some (.int .i64 l[i].place) ∧ EnOk l[i] := by
 obtain ⟨b, o, cs, e, hb, _, hc, rfl, hk⟩ := h.at_ hi
 exact ⟨b, o, e, hb, hc 0 _ rfl, hc 1 _ rfl, hc 2 _ rfl, hk⟩
theorem for_at {B : Nat} {w : World} {A : Option Addr} {n c : Nat} {l : List Fo} (h : RdFs B w (.slice A n c) l) {i : Nat} (hi : i < l.length) :
  ∃ (b o : Nat) (At : Option Addr) (ct : Nat), A = some ⟨b, o, none⟩ ∧ b < B ∧ w.cell? ⟨b, o + i, none⟩ = some (.slice At l[i].length ct) ∧ RdF B w (.slice At l[i].length ct) l[i] ∧ ct ≤ maxLen := by
 obtain ⟨b, o, cs, e, hb, _, hc, v, rfl, hr⟩ := h.at_ hi
 obtain ⟨At, ct, rfl, h1, h2, hr'⟩ := hr.form
 have := hc 0 _ rfl
 rw [Nat.mul_one, Nat.add_zero] at this
 exact ⟨b, o, At, ct, e, hb, this, hr', h2⟩
end Go.Proofs.YtmbhkkophkccbaaGreat.Shapes
end
section
namespace Go.Proofs.YtmbhkkophkccbaaGreat.Hs
open Go Go.RowKit Go.Proofs.YtmbhkkophkccbaaGreat.Seq WS FS Mem Rd Shapes Word FFam
set_option linter.unusedVariables false
set_option linter.unusedSimpArgs false
theorem row_set {w : World} {b i : Nat} {cs : Array Value} {t : TypeId} {fz : Nat × Nat} {v : Value} (h : w.heap[b]? = some (.cells cs t fz)) : (w.setCell ⟨b, i, none⟩ v).heap[b]? = some (.cells (cs.setIfInBounds i v) t fz) := by
 simp only [World.setCell, Array.getElem?_modify, h]
 simp
theorem and_low (x : Nat) (hx : x < 18446744073709551616) : bits BinOp.and IntKind.u64 (x : Int) 65535 = (itemA x : Nat) := by
 have h := bits_and_u64_nat x 65535 (by omega) (by omega)
 rw [show (65535 : Nat) = 2 ^ 16 - 1 by decide, Nat.and_two_pow_sub_one_eq_mod] at h
 exact h
theorem From_calls (x : Nat) (hx : x < 18446744073709551616) (w : World) : Calls Tryz.prog 145 #[.int .u64 x] w fun e w' => e = .returned (.tuple #[.int .i64 (itemC x : Nat), .int .i64 (itemA x : Nat)]) ∧ w = w' := by
 have hb := and_low x hx
 have hw : wrap64 (itemA x : Nat) = (itemA x : Nat) := by unfold wrap64 itemA; omega
 have hd : (x : Int) / 65536 = (itemC x : Nat) := by unfold itemC; omega
 go_enter Tryz.func145, Tryz.ntmps145
 go_wp2_with fail
 go_ret2
 refine ⟨?_, rfl⟩
 show Ending.returned (.tuple #[.int .i64 (itemC x : Nat), .int .i64 (wrap64 (itemA x : Nat))]) = _
 rw [hw]
theorem of_calls (x : Nat) (hx : x < 18446744073709551616) (w : World) : Calls Tryz.prog 95 #[.int .u64 x] w fun e w' => e = .returned (.agg #[.int .i64 (itemC x), .int .i64 (itemA x)]) ∧ Below w.heap.size w w' := by
 obtain ⟨w1, hw1⟩ : ∃ w1, w.alloc (.cells #[.int .i64 0, .int .i64 0] 162) = w1 := ⟨_, rfl⟩
 have q1 : w1.heap[w.heap.size]? = some (.cells #[.int .i64 0, .int .i64 0] 162 (0, 0)) := by rw [← hw1]; exact World.alloc_heap_new _ _
 have hb1 : Below w.heap.size w w1 := by rw [← hw1]; exact (Below.refl _ _).alloc (Nat.le_refl _) _
 have x0 : w1.cell? ⟨w.heap.size, 0, none⟩ = some (.int .i64 0) := (cell_of_row _ _ _ _ _ _ q1).trans rfl
 have x1 : w1.cell? ⟨w.heap.size, 1, none⟩ = some (.int .i64 0) := (cell_of_row _ _ _ _ _ _ q1).trans rfl
 have ff := free_of q1
 have hfr := From_calls x hx w1
 have Hw1 := Lib.hid hw1; have Hq1 := Lib.hid q1; have Hb1 := Lib.hid hb1; have Hfr := Lib.hid hfr
 clear hw1 q1 hb1 hfr
 go_enter Tryz.func95, Tryz.ntmps95
 go_upto_region 1 with fail
 rw [Hw1.out]
 go_wp2_with (go_at_call 145; (with_reducible refine (Hfr.out).mono ?_); rintro e w5 ⟨rfl, rfl⟩)
 obtain ⟨WF, hWF⟩ : ∃ WF, (((w1.setCell ⟨w.heap.size, 0, none⟩ (.int .i64 (itemC x : Nat))).setCell ⟨w.heap.size, 1, none⟩ (.int .i64 (itemA x : Nat))).setCell ⟨w.heap.size, 0, none⟩ (.int .i64 (itemC x : Nat))).setCell ⟨w.heap.size, 1, none⟩ (.int .i64 (itemA x : Nat)) = WF := ⟨_, rfl⟩
 have qF : WF.heap[w.heap.size]? = some (.cells #[.int .i64 (itemC x : Nat), .int .i64 (itemA x : Nat)] 162 (0, 0)) := by rw [← hWF]; exact (row_set (row_set (row_set (row_set Hq1.out)))).trans rfl
 have hbF : Below w.heap.size w WF := by rw [← hWF]; exact ((((Hb1.out.setCell (p := ⟨w.heap.size, 0, none⟩) (Nat.le_refl _) _).setCell (p := ⟨w.heap.size, 1, none⟩) (Nat.le_refl _) _).setCell (p := ⟨w.heap.size, 0, none⟩) (Nat.le_refl _) _).setCell (p := ⟨w.heap.size, 1, none⟩) (Nat.le_refl _) _)
 have z0 : WF.cell? ⟨w.heap.size, 0, none⟩ = some (.int .i64 (itemC x : Nat)) := (cell_of_row _ _ _ _ _ _ qF).trans rfl
 have z1 : WF.cell? ⟨w.heap.size, 1, none⟩ = some (.int .i64 (itemA x : Nat)) := (cell_of_row _ _ _ _ _ _ qF).trans rfl
 rw [hWF]
 refine bodyPost_ret (v := .agg #[.int .i64 (itemC x : Nat), .int .i64 (itemA x : Nat)]) (by simp [results, go_sem, Tryz.results95, z0, z1]) rfl ?_
 exact ⟨rfl, hbF⟩
abbrev clV (vo : Value) (c : Cl) : Value := .agg #[.int .i64 c.kind, vo, .int .i64 c.q.kind, .int .i64 c.q.id, .int .i64 c.q.by_, .string c.q.text]
def HcPost (l : Cls) (i a : Int) (w : World) (e : Ending) (w' : World) : Prop :=
 ∃ A c, e = .returned (.tuple #[clV (.slice A ((callP l i a).getD {}).ops.length c) ((callP l i a).getD {}), .bool (callP l i a).isSome]) ∧ RdO w.heap.size w' (.slice A ((callP l i a).getD {}).ops.length c) ((callP l i a).getD {}).ops ∧ Below w.heap.size w w'
abbrev z6 : Array Value := #[.int .i64 0, .slice none 0 0, .int .i64 0, .int .i64 0, .int .i64 0, .string ⟨#[]⟩]
theorem cells6 {w : World} {b : Nat} {x0 x1 x2 x3 x4 x5 : Value} {T : TypeId} (h : w.heap[b]? = some (.cells #[x0, x1, x2, x3, x4, x5] T (0, 0))) :
  w.cell? ⟨b, 0, none⟩ = some x0 ∧ w.cell? ⟨b, 1, none⟩ = some x1 ∧ w.cell? ⟨b, 2, none⟩ = some x2 ∧ w.cell? ⟨b, 3, none⟩ = some x3 ∧ w.cell? ⟨b, 4, none⟩ = some x4 ∧ w.cell? ⟨b, 5, none⟩ = some x5 :=
 ⟨(cell_of_row _ _ _ _ _ _ h).trans rfl, (cell_of_row _ _ _ _ _ _ h).trans rfl, (cell_of_row _ _ _ _ _ _ h).trans rfl, (cell_of_row _ _ _ _ _ _ h).trans rfl, (cell_of_row _ _ _ _ _ _ h).trans rfl, (cell_of_row _ _ _ _ _ _ h).trans rfl⟩
theorem call_none {l : Cls} {i a : Int} (h : i < 0 ∨ (l.length : Int) ≤ i ∨ a < 0 ∨ ∃ h : i.toNat < l.length, (l[i.toNat].length : Int) ≤ a) : callP l i a = none := by
 unfold callP
 split
 ·rename_i hp
  rcases h with h | h | h | ⟨h, h2⟩
  ·omega
  ·rw [List.getElem?_eq_none (by omega)]; rfl
  ·omega
  ·rw [List.getElem?_eq_getElem h]
   show l[i.toNat][a.toNat]? = none
   exact List.getElem?_eq_none (by omega)
 ·rfl
theorem call_some {l : Cls} {i a : Nat} (hi : i < l.length) (ha : a < l[i].length) : callP l i a = some l[i][a] := by
 unfold callP
 rw [if_pos ⟨by omega, by omega⟩, Int.toNat_natCast, Int.toNat_natCast, List.getElem?_eq_getElem hi]
 show l[i][a]? = _
 exact List.getElem?_eq_getElem ha
theorem row6_set {w W : World} {b : Nat} {x0 x1 x2 x3 x4 x5 p0 p1 p2 p3 p4 p5 : Value} {T : TypeId} (h : w.heap[b]? = some (.cells #[x0, x1, x2, x3, x4, x5] T (0, 0)))
  (hW : (((((w.setCell ⟨b, 0, none⟩ p0).setCell ⟨b, 1, none⟩ p1).setCell ⟨b, 2, none⟩ p2).setCell ⟨b, 3, none⟩ p3).setCell ⟨b, 4, none⟩ p4).setCell ⟨b, 5, none⟩ p5 = W) :
  W.heap[b]? = some (.cells #[p0, p1, p2, p3, p4, p5] T (0, 0)) ∧ W.heap.size = w.heap.size ∧ (∀ c, c ≠ b → W.heap[c]? = w.heap[c]?) ∧ ∀ B w0, Below B w0 w → B ≤ b → Below B w0 W := by
 subst hW
 exact ⟨(row_set (row_set (row_set (row_set (row_set (row_set h)))))).trans rfl, by simp, fun c hc => by rw [set_other hc, set_other hc, set_other hc, set_other hc, set_other hc, set_other hc], fun B w0 hb hB => (((((hb.setCell hB p0).setCell hB p1).setCell hB p2).setCell hB p3).setCell hB p4).setCell hB p5⟩
set_option maxRecDepth 100000 in
set_option maxHeartbeats 4000000 in
theorem hcall_calls (w : World) (vl : Value) (l : Cls) (h : RdCs w.heap.size w vl l) (i a : Int) : Calls Tryz.prog 94 #[vl, .agg #[.int .i64 i, .int .i64 a]] w (HcPost l i a w) := by
 obtain ⟨w1, hw1⟩ : ∃ w1, (w.alloc (.cells #[.int .i64 i, .int .i64 a] 162)).alloc (.cells z6 158) = w1 := ⟨_, rfl⟩
 have hs1 : w1.heap.size = w.heap.size + 2 := by rw [← hw1]; simp
 have p1 : w1.heap[w.heap.size]? = some (.cells #[.int .i64 i, .int .i64 a] 162 (0, 0)) := by rw [← hw1]; exact heap_old (World.alloc_heap_new _ _)
 have q1 : w1.heap[w.heap.size + 1]? = some (.cells z6 158 (0, 0)) := by rw [← hw1]; exact heap_new (by simp)
 have hb1 : Below w.heap.size w w1 := by rw [← hw1]; exact ((Below.refl _ _).alloc (Nat.le_refl _) _).alloc (by simp) _
 have c0 : w1.cell? ⟨w.heap.size, 0, none⟩ = some (.int .i64 i) := (cell_of_row _ _ _ _ _ _ p1).trans rfl
 have c1 : w1.cell? ⟨w.heap.size, 1, none⟩ = some (.int .i64 a) := (cell_of_row _ _ _ _ _ _ p1).trans rfl
 obtain ⟨x0, x1, x2, x3, x4, x5⟩ := cells6 q1
 have ff := free_of q1
 have h1 := h.below rowCE_keeps (w' := w1) hb1 (Nat.le_refl _)
 obtain ⟨Al, cl, rfl, hl0, hc0, h1'⟩ := h1.form
 simp only [maxLen] at hc0
 have Hw1 := Lib.hid hw1; have Hq1 := Lib.hid q1; have Hb1 := Lib.hid hb1
 clear hw1 q1 hb1 h h1 p1
 by_cases hi0 : i < 0
 ·have HN := Lib.hid (call_none (l := l) (i := i) (a := a) (.inl hi0))
  go_enter Tryz.func94, Tryz.ntmps94
  go_upto_region 1 with fail
  rw [Hw1.out]
  go_region
  go_wp2_with fail
  obtain ⟨W6, hW6⟩ : ∃ W6, (((((w1.setCell ⟨w.heap.size + 1, 0, none⟩ (.int .i64 0)).setCell ⟨w.heap.size + 1, 1, none⟩ (.slice none 0 0)).setCell ⟨w.heap.size + 1, 2, none⟩ (.int .i64 0)).setCell ⟨w.heap.size + 1, 3, none⟩ (.int .i64 0)).setCell ⟨w.heap.size + 1, 4, none⟩ (.int .i64 0)).setCell ⟨w.heap.size + 1, 5, none⟩ (.string ⟨#[]⟩) = W6 := ⟨_, rfl⟩
  obtain ⟨qF, sF, kF, bF⟩ := row6_set Hq1.out hW6
  rw [hW6]
  obtain ⟨z0, z1, z2, z3, z4, z5⟩ := cells6 (w := W6.drew) qF
  refine bodyPost_ret (v := .tuple #[clV (.slice none 0 0) {}, .bool false]) (by simp [results, go_sem, Tryz.results94, z0, z1, z2, z3, z4, z5]) rfl ?_
  exact ⟨none, 0, by rw [HN.out]; rfl, by rw [HN.out]; exact RdL.nil, (bF _ _ Hb1.out (by omega)).drew⟩
 by_cases hi1 : (l.length : Int) ≤ i
 ·have HN := Lib.hid (call_none (l := l) (i := i) (a := a) (.inr (.inl hi1)))
  go_enter Tryz.func94, Tryz.ntmps94
  go_upto_region 1 with fail
  rw [Hw1.out]
  go_region
  go_wp2_with fail
  obtain ⟨W6, hW6⟩ : ∃ W6, (((((w1.setCell ⟨w.heap.size + 1, 0, none⟩ (.int .i64 0)).setCell ⟨w.heap.size + 1, 1, none⟩ (.slice none 0 0)).setCell ⟨w.heap.size + 1, 2, none⟩ (.int .i64 0)).setCell ⟨w.heap.size + 1, 3, none⟩ (.int .i64 0)).setCell ⟨w.heap.size + 1, 4, none⟩ (.int .i64 0)).setCell ⟨w.heap.size + 1, 5, none⟩ (.string ⟨#[]⟩) = W6 := ⟨_, rfl⟩
  obtain ⟨qF, sF, kF, bF⟩ := row6_set Hq1.out hW6
  rw [hW6]
  obtain ⟨z0, z1, z2, z3, z4, z5⟩ := cells6 (w := W6.drew) qF
  refine bodyPost_ret (v := .tuple #[clV (.slice none 0 0) {}, .bool false]) (by simp [results, go_sem, Tryz.results94, z0, z1, z2, z3, z4, z5]) rfl ?_
  exact ⟨none, 0, by rw [HN.out]; rfl, by rw [HN.out]; exact RdL.nil, (bF _ _ Hb1.out (by omega)).drew⟩
 by_cases ha0 : a < 0
 ·have HN := Lib.hid (call_none (l := l) (i := i) (a := a) (.inr (.inr (.inl ha0))))
  go_enter Tryz.func94, Tryz.ntmps94
  go_upto_region 1 with fail
  rw [Hw1.out]
  go_region
  go_wp2_with fail
  obtain ⟨W6, hW6⟩ : ∃ W6, (((((w1.setCell ⟨w.heap.size + 1, 0, none⟩ (.int .i64 0)).setCell ⟨w.heap.size + 1, 1, none⟩ (.slice none 0 0)).setCell ⟨w.heap.size + 1, 2, none⟩ (.int .i64 0)).setCell ⟨w.heap.size + 1, 3, none⟩ (.int .i64 0)).setCell ⟨w.heap.size + 1, 4, none⟩ (.int .i64 0)).setCell ⟨w.heap.size + 1, 5, none⟩ (.string ⟨#[]⟩) = W6 := ⟨_, rfl⟩
  obtain ⟨qF, sF, kF, bF⟩ := row6_set Hq1.out hW6
  rw [hW6]
  obtain ⟨z0, z1, z2, z3, z4, z5⟩ := cells6 (w := W6.drew) qF
  refine bodyPost_ret (v := .tuple #[clV (.slice none 0 0) {}, .bool false]) (by simp [results, go_sem, Tryz.results94, z0, z1, z2, z3, z4, z5]) rfl ?_
  exact ⟨none, 0, by rw [HN.out]; rfl, by rw [HN.out]; exact RdL.nil, (bF _ _ Hb1.out (by omega)).drew⟩
 obtain ⟨j, rfl⟩ : ∃ j : Nat, i = j := ⟨i.toNat, by omega⟩
 have hj : j < l.length := by omega
 obtain ⟨br, or_, At, ct, rfl, hbr, g0, hrow, hlr, hcr⟩ := row_atC h1' hj
 simp only [maxLen] at hcr
 by_cases ha1 : (l[j].length : Int) ≤ a
 ·have HN := Lib.hid (call_none (l := l) (i := (j : Int)) (a := a) (.inr (.inr (.inr ⟨by simpa using hj, by simpa using ha1⟩))))
  go_enter Tryz.func94, Tryz.ntmps94
  go_upto_region 1 with fail
  rw [Hw1.out]
  go_region
  go_wp2_with fail
  obtain ⟨W6, hW6⟩ : ∃ W6, (((((w1.setCell ⟨w.heap.size + 1, 0, none⟩ (.int .i64 0)).setCell ⟨w.heap.size + 1, 1, none⟩ (.slice none 0 0)).setCell ⟨w.heap.size + 1, 2, none⟩ (.int .i64 0)).setCell ⟨w.heap.size + 1, 3, none⟩ (.int .i64 0)).setCell ⟨w.heap.size + 1, 4, none⟩ (.int .i64 0)).setCell ⟨w.heap.size + 1, 5, none⟩ (.string ⟨#[]⟩) = W6 := ⟨_, rfl⟩
  obtain ⟨qF, sF, kF, bF⟩ := row6_set Hq1.out hW6
  rw [hW6]
  obtain ⟨z0, z1, z2, z3, z4, z5⟩ := cells6 (w := W6.drew) qF
  refine bodyPost_ret (v := .tuple #[clV (.slice none 0 0) {}, .bool false]) (by simp [results, go_sem, Tryz.results94, z0, z1, z2, z3, z4, z5]) rfl ?_
  exact ⟨none, 0, by rw [HN.out]; rfl, by rw [HN.out]; exact RdL.nil, (bF _ _ Hb1.out (by omega)).drew⟩
 obtain ⟨k, rfl⟩ : ∃ k : Nat, a = k := ⟨a.toNat, by omega⟩
 obtain ⟨b2, o2, Ao, co, rfl, hb2, d0, d1, d2, d3, d4, d5, hops, hco, hqk⟩ := call_at hrow (i := k) (by omega)
 simp only [maxLen] at hco
 have hS := call_some hj (a := k) (by omega)
 generalize l[j][k] = c at *
 have HS := Lib.hid hS; have Hops := Lib.hid hops
 clear hS hops hrow hqk
 go_enter Tryz.func94, Tryz.ntmps94
 go_upto_region 1 with fail
 rw [Hw1.out]
 go_region
 go_upto_region 3 with fail
 go_region
 go_wp2_with fail
 obtain ⟨W6, hW6⟩ : ∃ W6, (((((w1.setCell ⟨w.heap.size + 1, 0, none⟩ (.int .i64 c.kind)).setCell ⟨w.heap.size + 1, 1, none⟩ (.slice Ao c.ops.length co)).setCell ⟨w.heap.size + 1, 2, none⟩ (.int .i64 c.q.kind)).setCell ⟨w.heap.size + 1, 3, none⟩ (.int .i64 c.q.id)).setCell ⟨w.heap.size + 1, 4, none⟩ (.int .i64 c.q.by_)).setCell ⟨w.heap.size + 1, 5, none⟩ (.string c.q.text) = W6 := ⟨_, rfl⟩
 obtain ⟨qF, sF, kF, bF⟩ := row6_set Hq1.out hW6
 rw [hW6]
 obtain ⟨z0, z1, z2, z3, z4, z5⟩ := cells6 (w := W6.drew.drew) qF
 refine bodyPost_ret (v := .tuple #[clV (.slice Ao c.ops.length co) c, .bool true]) (by simp [results, go_sem, Tryz.results94, z0, z1, z2, z3, z4, z5]) rfl ?_
 have hb6 : Below w.heap.size w1 W6 := bF _ _ (Below.refl _ _) (by omega)
 have hops6 : RdO w.heap.size W6.drew.drew (.slice Ao c.ops.length co) c.ops := Hops.out.keep opE_keeps hb6.drew.drew (Nat.le_refl _)
 exact ⟨Ao, co, by rw [HS.out]; rfl, by rw [HS.out]; exact hops6, (bF _ _ Hb1.out (by omega)).drew.drew⟩
end Go.Proofs.YtmbhkkophkccbaaGreat.Hs
end
section
namespace Go.Proofs.YtmbhkkophkccbaaGreat.Wk
open Go Go.RowKit Go.Proofs.YtmbhkkophkccbaaGreat.Seq WS FS Mem Rd Shapes Word FFam
set_option linter.unusedVariables false
set_option linter.unusedSimpArgs false

theorem parentE_no {f : Fo} {i : Int} (h : isNode f i = false) : parentE f i = (0, 70) := by unfold parentE; rw [if_pos h]
theorem parentE_top {f : Fo} {i : Int} (h : isNode f i = true) (hp : (at_ f i).parent = -1) : parentE f i = (0, 3) := by unfold parentE; rw [if_neg (by rw [h]; decide), if_pos hp]
theorem parentE_kid {f : Fo} {i : Int} (h : isNode f i = true) (hp : (at_ f i).parent ≠ -1) : parentE f i = ((at_ f i).parent, 0) := by unfold parentE; rw [if_neg (by rw [h]; decide), if_neg hp]
theorem Parent_calls (w : World) (v : Value) (f : Fo) (h : RdF w.heap.size w v f) (i : Int) : Calls Tryz.prog 64 #[v, .int .i64 i] w fun e w' => e = .returned (.tuple #[.int .i64 (parentE f i).1, .int .i64 (parentE f i).2]) ∧ w = w' := by
 obtain ⟨A0, c0, rfl, hl0, hc0, h'⟩ := h.form
 simp only [maxLen] at hc0
 cases hn : isNode f i with
 | false =>
  have hh := has_no w A0 f.length c0 i (node_no hn)
  rw [parentE_no hn]
  have Hh := Lib.hid hh
  clear hh h h' hn
  go_enter Tryz.func64, Tryz.ntmps64
  go_wp2_with (go_at_call 111; ((with_reducible refine (Hh.out).mono ?_); rintro e w5 ⟨rfl, rfl⟩))
  go_ret2
  exact ⟨rfl, rfl⟩
 | true =>
  obtain ⟨k, rfl, hk⟩ := node_nat hn
  have hh := has_yes w A0 f.length c0 k hk
  obtain ⟨b, o, Aa, ca, Ak, ck, rfl, hbl, g0, g1, g2, g3, g4, g5, ra, rk, la, lca, lk, lck, m1, m2, m3, m4⟩ := node_at h' hk
  rw [← at_nat hk] at g4
  by_cases hp : (at_ f (k : Int)).parent = -1
  ·rw [parentE_top hn hp]
   rw [hp] at g4
   have Hh := Lib.hid hh
   clear hh h h' hn hp g0 g1 g2 g3 g5 ra rk la lca lk lck m1 m2 m3 m4
   go_enter Tryz.func64, Tryz.ntmps64
   go_wp2_with (go_at_call 111; ((with_reducible refine (Hh.out).mono ?_); rintro e w5 ⟨rfl, rfl⟩))
   go_ret2
   exact ⟨rfl, rfl⟩
  ·rw [parentE_kid hn hp]
   have hp1 : ((at_ f (k : Int)).parent == -1) = false := by rw [beq_eq_false_iff_ne]; exact hp
   have Hh := Lib.hid hh
   clear hh h h' hn hp g0 g1 g2 g3 g5 ra rk la lca lk lck m1 m2 m3 m4
   generalize (at_ f (k : Int)).parent = pr at *
   go_enter Tryz.func64, Tryz.ntmps64
   go_wp2_with (go_at_call 111; ((with_reducible refine (Hh.out).mono ?_); rintro e w5 ⟨rfl, rfl⟩))
   go_ret2
   exact ⟨rfl, rfl⟩
def KidsNew (f : Fo) (i : Int) (w : World) (e : Ending) (w' : World) : Prop := ∃ v, e = .returned (.tuple #[v, .int .i64 (kidsE f i).2]) ∧ RdL (intE .i64) 1 w'.heap.size w' v (kidsE f i).1 ∧ Below w.heap.size w w' ∧ Fresh w.heap.size v
def KidsPost (f : Fo) (i : Int) (w : World) (e : Ending) (w' : World) : Prop := ∃ v, e = .returned (.tuple #[v, .int .i64 (kidsE f i).2]) ∧ RdL (intE .i64) 1 w'.heap.size w' v (kidsE f i).1 ∧ Below w.heap.size w w'
theorem KidsNew_calls (w : World) (v : Value) (f : Fo) (h : RdF w.heap.size w v f) (hm : mayB f = true) (i : Int) : Calls Tryz.prog 67 #[v, .int .i64 i] w (KidsNew f i w) := by
 obtain ⟨A0, c0, rfl, hl0, hc0, h'⟩ := h.form
 simp only [maxLen] at hc0
 cases hn : isNode f i with
 | false =>
  have hh := has_no w A0 f.length c0 i (node_no hn)
  have hE : kidsE f i = ([], 70) := by unfold kidsE; rw [if_pos hn]
  have Hh := Lib.hid hh; have HE := Lib.hid hE
  clear hh h h' hn hE
  go_enter Tryz.func67, Tryz.ntmps67
  go_wp2_with (go_at_call 111; ((with_reducible refine (Hh.out).mono ?_); rintro e w5 ⟨rfl, rfl⟩))
  go_ret2
  exact ⟨_, by rw [HE.out]; rfl, by rw [HE.out]; exact RdL.nil, Below.refl _ _, fun b o n c e h0 => by cases e⟩
 | true =>
  have hkl := kids_len hm hn
  have hE : kidsE f i = ((at_ f i).kids, 0) := by unfold kidsE; rw [if_neg (by rw [hn]; decide)]
  obtain ⟨k, rfl, hk⟩ := node_nat hn
  have hh := has_yes w A0 f.length c0 k hk
  obtain ⟨b, o, Aa, ca, Ak, ck, rfl, hbl, g0, g1, g2, g3, g4, g5, ra, rk, la, lca, lk, lck, m1, m2, m3, m4⟩ := node_at h' hk
  have hwf := fun (x : Int) (hx : x ∈ f[k].kids) => (show (Lit.int .i64 x).wf = true from by
   obtain ⟨j, hj, rfl⟩ := List.mem_iff_getElem.1 hx
   obtain ⟨_, _, _, _, _, hw⟩ := intE_at rk hj
   exact hw)
  rw [← at_nat hk] at g5 rk hwf
  have hcl := Work.cloneI_calls w _ _ rk (by omega)
  have Hh := Lib.hid hh; have HE := Lib.hid hE; have Hcl := Lib.hid hcl; have Hwf := Lib.hid hwf
  clear hh h h' hn hE hcl hwf g0 g1 g2 g3 g4 ra rk la lca lk lck m1 m2 m3 m4
  generalize (at_ f (k : Int)).kids = ks at *
  go_enter Tryz.func67, Tryz.ntmps67
  go_wp2_with (first
   | (go_at_call 111; ((with_reducible refine (Hh.out).mono ?_); rintro e w5 ⟨rfl, rfl⟩))
   | (go_at_call 134; ((with_reducible refine (Hcl.out).mono ?_); rintro e w6 ⟨v6, rfl, ho6, hb6⟩; have Ho6 := Lib.hid ho6; have Hb6 := Lib.hid hb6; clear ho6 hb6)))
  go_ret2
  refine ⟨_, by rw [HE.out]; rfl, ?_, Hb6.out, fresh_own Ho6.out⟩
  rw [HE.out]
  exact RdL.of_own Ho6.out rfl (fun g hg => (Ho6.out.lt g hg).2) (fun j hj => ⟨by rw [Nat.mul_one, List.drop_eq_getElem_cons (by simpa using hj)]; simp, Hwf.out _ (List.getElem_mem hj)⟩)
theorem Kids_calls (w : World) (v : Value) (f : Fo) (h : RdF w.heap.size w v f) (hm : mayB f = true) (i : Int) : Calls Tryz.prog 67 #[v, .int .i64 i] w (KidsPost f i w) :=
 (KidsNew_calls w v f h hm i).mono fun e w' ⟨u, h1, h2, h3, _⟩ => ⟨u, h1, h2, h3⟩
theorem Beside_calls (w : World) (v : Value) (f : Fo) (h : RdF w.heap.size w v f) (hm : mayB f = true) (i d : Int) (hd : (Lit.int .i64 d).wf = true) : Calls Tryz.prog 69 #[v, .int .i64 i, .int .i64 d] w fun e w' => e = .returned (.tuple #[.int .i64 (besideE f i d).1, .int .i64 (besideE f i d).2]) ∧ w = w' := by
 have hpc := Parent_calls w v f h i
 obtain ⟨A0, c0, rfl, hl0, hc0, h'⟩ := h.form
 simp only [maxLen] at hc0
 simp only [Lit.wf, Bool.and_eq_true, decide_eq_true_eq] at hd
 have hd1 : (-9223372036854775808 : Int) ≤ d := hd.1
 have hd2 : d ≤ 9223372036854775807 := hd.2
 cases hn : isNode f i with
 | false =>
  have hE : besideE f i d = (0, 70) := by unfold besideE; rw [if_pos hn]
  rw [parentE_no hn] at hpc
  rw [hE]
  have Hpc := Lib.hid hpc
  clear hpc h h' hn hE hd
  go_enter Tryz.func69, Tryz.ntmps69
  go_wp2_with (go_at_call 64; ((with_reducible refine (Hpc.out).mono ?_); rintro e w5 ⟨rfl, rfl⟩))
  go_ret2
  exact ⟨rfl, rfl⟩
 | true =>
  by_cases hp : (at_ f i).parent = -1
  ·have hE : besideE f i d = (0, 3) := by unfold besideE; rw [if_neg (by rw [hn]; decide), if_pos hp]
   rw [parentE_top hn hp] at hpc
   rw [hE]
   have Hpc := Lib.hid hpc
   clear hpc h h' hn hE hd hp
   go_enter Tryz.func69, Tryz.ntmps69
   go_wp2_with (go_at_call 64; ((with_reducible refine (Hpc.out).mono ?_); rintro e w5 ⟨rfl, rfl⟩))
   go_ret2
   exact ⟨rfl, rfl⟩
  ·have hf := may_family hm
   have hpar := fam_parent hf hn
   obtain ⟨hpn, hik⟩ := kid_of_parent hf hn (by omega)
   obtain ⟨p, hpe, hpl⟩ := node_nat hpn
   rw [parentE_kid hn hp, hpe] at hpc
   rw [hpe] at hik hpn
   have hkl := kids_len hm hpn
   obtain ⟨b, o, Aa, ca, Ak, ck, rfl, hbl, g0, g1, g2, g3, g4, g5, ra, rk, la, lca, lk, lck, m1, m2, m3, m4⟩ := node_at h' hpl
   rw [← at_nat hpl] at g5 rk lk
   have hix := Work.Index_calls w _ _ rk i
   obtain ⟨j, hj, hje, hji⟩ := idxL_mem hik
   have hje2 : Work.idxI (at_ f (p : Int)).kids i = (j : Int) := hje
   rw [hje2] at hix
   have hE : besideE f i d = if -(j : Int) ≤ d ∧ d < (at_ f (p : Int)).kids.length - (j : Int) then ((at_ f (p : Int)).kids.getD ((j : Int) + d).toNat 0, 0) else (0, 3) := beside_at (may_is hm) hpn hj hji d
   have hat := fun (m : Nat) (hm : m < (at_ f (p : Int)).kids.length) => intE_at rk hm
   have Hpc := Lib.hid hpc; have Hix := Lib.hid hix; have HE := Lib.hid hE; have Hat := Lib.hid hat
   clear hpc hix h h' hn hE hd hp hpar hik hpn hat hje hji hje2 g0 g1 g2 g3 g4 ra rk la lca lck m1 m2 m3 m4 hpe
   generalize (at_ f (p : Int)).kids = ks at *
   by_cases h1 : -(j : Int) ≤ d ∧ d < ks.length - (j : Int)
   ·obtain ⟨m, hm⟩ : ∃ m : Nat, (j : Int) + d = m := ⟨((j : Int) + d).toNat, by omega⟩
    have hml : m < ks.length := by omega
    obtain ⟨b2, o2, rfl, hb2, e2, _⟩ := Hat.out m hml
    have hE2 : besideE f i d = (ks[m], 0) := by rw [HE.out, if_pos h1, hm, Int.toNat_natCast, List.getD_eq_getElem?_getD, List.getElem?_eq_getElem hml]; rfl
    rw [hE2]
    have t1 : decide (d < -(j : Int)) = false := by simp; omega
    have t2 : decide ((ks.length : Int) - (j : Int) ≤ d) = false := by simp; omega
    have hnw : IntKind.i64.wrap (-(j : Int)) = -(j : Int) := by rw [IntKind.wrap_i64]; omega
    have hsw : IntKind.i64.wrap ((ks.length : Int) - (j : Int)) = (ks.length : Int) - (j : Int) := by rw [IntKind.wrap_i64]; omega
    have haw : IntKind.i64.wrap ((j : Int) + d) = (m : Int) := by rw [IntKind.wrap_i64]; omega
    clear hE2 HE Hat h1
    go_enter Tryz.func69, Tryz.ntmps69
    go_wp2_with (first | (go_at_call 64; ((with_reducible refine (Hpc.out).mono ?_); rintro e w5 ⟨rfl, rfl⟩)) | (go_at_call 135; ((with_reducible refine (Hix.out).mono ?_); rintro e w6 ⟨rfl, rfl⟩)))
    go_ret2
    exact ⟨rfl, rfl⟩
   ·have hE2 : besideE f i d = (0, 3) := by rw [HE.out, if_neg h1]
    rw [hE2]
    have hnw : IntKind.i64.wrap (-(j : Int)) = -(j : Int) := by rw [IntKind.wrap_i64]; omega
    have hsw : IntKind.i64.wrap ((ks.length : Int) - (j : Int)) = (ks.length : Int) - (j : Int) := by rw [IntKind.wrap_i64]; omega
    by_cases h2 : d < -(j : Int)
    ·clear hE2 HE Hat h1
     go_enter Tryz.func69, Tryz.ntmps69
     go_wp2_with (first | (go_at_call 64; ((with_reducible refine (Hpc.out).mono ?_); rintro e w5 ⟨rfl, rfl⟩)) | (go_at_call 135; ((with_reducible refine (Hix.out).mono ?_); rintro e w6 ⟨rfl, rfl⟩)))
     go_ret2
     exact ⟨rfl, rfl⟩
    ·have t1 : decide (d < -(j : Int)) = false := by simp; omega
     have t2 : decide ((ks.length : Int) - (j : Int) ≤ d) = true := by simp; omega
     clear hE2 HE Hat h1
     go_enter Tryz.func69, Tryz.ntmps69
     go_wp2_with (first | (go_at_call 64; ((with_reducible refine (Hpc.out).mono ?_); rintro e w5 ⟨rfl, rfl⟩)) | (go_at_call 135; ((with_reducible refine (Hix.out).mono ?_); rintro e w6 ⟨rfl, rfl⟩)))
     go_ret2
     exact ⟨rfl, rfl⟩
end Go.Proofs.YtmbhkkophkccbaaGreat.Wk
end
