import Derived.Defers
import Derived.Ground.Names2Prog
import Derived.Shelf.Slices.Reverse
import Derived.Test.YtmbhkkophkccbaaGreatProg
import Derived.Lib.OwnBridge
import Derived.Test.YtmbhkkophkccbaaGreatC19
import Derived.Test.YtmbhkkophkccbaaGreatC17
import Derived.Test.YtmbhkkophkccbaaGreatC05
import Derived.Test.YtmbhkkophkccbaaGreatC07
import Derived.Test.YtmbhkkophkccbaaGreatC15
section
namespace Go.Proofs.YtmbhkkophkccbaaGreat.Pa
open Go Go.RowKit Go.Proofs.YtmbhkkophkccbaaGreat.Seq WS FS Mem Rd Shapes Word FFam Work Fn OwnF
set_option linter.unusedVariables false
set_option linter.unusedSimpArgs false
theorem info_row : (Tryz.prog.info? 46).map (fun i => (i.zero, i.size, i.bytes)) = some (some (.slice none 0 0), 1, 24) := by kernel_rfl
def rowS : ElS Sro := fun S w cs x => ∃ v, cs = [v] ∧ RdE stepS 2 S w v x
theorem rowS_keeps : rowS.Keeps := fun S S' w w' cs x ⟨v, h1, h2⟩ hk hs hS => ⟨v, h1, h2.keep stepS_keeps hk hs hS⟩
theorem row_ok_loop {s : ByteArray} : ∀ (n : Nat) (l : Sro) (c : Bool) (b : Nat) {x : Sro × Nat}, rowLoop s n l c b = .ok x → b ≤ s.size → b < x.2 ∧ x.2 ≤ s.size
 | 0, l, c, b, x, h, _ => by rw [rowLoop] at h; cases h
 | n + 1, l, c, b, x, h, hb => by
  rw [rowLoop] at h
  cases hN : compoundP s b with
  | error e => rw [hN] at h; cases h
  | ok y =>
   rw [hN] at h
   have ho := compound_ok hN hb
   have he := end_le (s := s) (p := blkB) (a := y.2) ho.2.1
   simp only at h
   split at h
   ·injection h with h
    subst h
    exact ⟨by show b < endOf s blkB y.2; omega, he.2⟩
   ·split at h
    ·rename_i ht
     have hlt := (took_lt ht).1
     have he3 := end_le (s := s) (p := blkB) (a := endOf s blkB y.2 + 1) (by omega)
     have := row_ok_loop n _ _ _ h he3.2
     omega
    ·split at h
     ·have := row_ok_loop n _ _ _ h he.2
      omega
     ·cases h
theorem row_ok {s : ByteArray} {a : Nat} {x : Sro × Nat} (h : rowP s a = .ok x) (ha : a ≤ s.size) : a < x.2 ∧ x.2 ≤ s.size := by
 unfold rowP at h
 have he := end_le (s := s) (p := blkB) (a := a) ha
 have := row_ok_loop _ _ _ _ h he.2
 omega
def parseLoop (s : ByteArray) : Nat → Sel → Nat → Except Nat Sel
 | 0, _, a => .error a
 | n + 1, l, a => match rowP s a with
  | .error e => .error e
  | .ok x => if tookB s x.2 44 = true then parseLoop s n (l ++ [x.1]) (x.2 + 1) else .ok (l ++ [x.1])
def parseP (s : ByteArray) : Except Nat Sel := parseLoop s (s.size + 1) [] 0
structure Res (n : Nat) (w : World) (u : Value) : Prop where
 c0 : w.heap[n]? = some (.cells #[u] 24 (0, 0))
 c1 : w.heap[n + 1]? = some (.cells #[.int .i64 0] 3 (0, 0))
 c2 : w.heap[n + 2]? = some (.cells #[.int .i64 0] 64 (0, 0))
theorem Res.off {n : Nat} {w w' : World} {u : Value} (h : Res n w u) (ho : OffR (n + 3) w w') : Res n w' u :=
 ⟨ho.keep h.c0 (by omega), ho.keep h.c1 (by omega), ho.keep h.c2 (by omega)⟩
theorem Res.set {n : Nat} {w : World} {u v : Value} (h : Res n w u) : Res n (w.setCell ⟨n, 0, none⟩ v) v :=
 ⟨set_one h.c0, (set_other (by omega)).trans h.c1, (set_other (by omega)).trans h.c2⟩
def ParseQ (w : World) (M : Except Nat Sel) (e : Ending) (w' : World) : Prop := Below w.heap.size w w' ∧ match M with
  | .ok l => ∃ v, e = .returned (.tuple #[v, .int .i64 0, .int .i64 0]) ∧ RdE rowS 1 (fun b => w.heap.size ≤ b) w' v l
  | .error b => e = .returned (.tuple #[.slice none 0 0, .int .i64 (b : Int), .int .i64 90])
def dfr (n : Nat) : Deferred := { target := .fn (.func 59) #[.pointer (some ⟨n, 0, none⟩), .pointer (some ⟨n + 1, 0, none⟩), .pointer (some ⟨n + 2, 0, none⟩)], args := #[] }
def Ptrs (n : Nat) (a : Act) : Prop := a.defers = [dfr n] ∧ a.tmps[2]? = some (.pointer (some ⟨n, 0, none⟩)) ∧ a.tmps[3]? = some (.pointer (some ⟨n + 1, 0, none⟩)) ∧ a.tmps[4]? = some (.pointer (some ⟨n + 2, 0, none⟩))
def Pan (n : Nat) (C : List PanicEntry → World → Prop) (Q : Exit → Act → World → Prop) : Exit → Act → World → Prop
 | .panic c, a, w => Ptrs n a ∧ C c w
 | e, a, w => Q e a w
theorem wp_pan {P : Program} {id : Nat} {ops : Array Oper} {b : Bool} {Q : Exit → Act → World → Prop} {a : Act} {w : World} (n : Nat) (C : List PanicEntry → World → Prop) (hq : ∀ c a w, Ptrs n a → C c w → Q (.panic c) a w) (h : (Code.region id ops b).wp P (Pan n C Q) a w) : (Code.region id ops b).wp P Q a w :=
 Code.wp_mono (fun e a w h => by cases e <;> first | exact h | exact hq _ _ _ h.1 h.2) h
theorem pan_put {n : Nat} {C : List PanicEntry → World → Prop} {Q : Exit → Act → World → Prop} {c : List PanicEntry} {a : Act} {w : World} {k : Nat} {v : Value} (hk : 10 ≤ k) (h : Pan n C Q (.panic c) (a.put (some k) v) w) : Pan n C Q (.panic c) a w := by
 obtain ⟨⟨h0, h1, h2, h3⟩, h4⟩ := h
 refine ⟨⟨h0, ?_, ?_, ?_⟩, h4⟩
 ·rw [← h1]; simp only [Act.put]; rw [Array.getElem?_setIfInBounds_ne (by omega)]
 ·rw [← h2]; simp only [Act.put]; rw [Array.getElem?_setIfInBounds_ne (by omega)]
 ·rw [← h3]; simp only [Act.put]; rw [Array.getElem?_setIfInBounds_ne (by omega)]
set_option maxRecDepth 100000 in
theorem leave_ok {R : Ending → World → Prop} {tmps : Array Value} {n : Nat} {w : World} {u : Value} (h2 : tmps[2]? = some (.pointer (some ⟨n, 0, none⟩))) (h3 : tmps[3]? = some (.pointer (some ⟨n + 1, 0, none⟩))) (h4 : tmps[4]? = some (.pointer (some ⟨n + 2, 0, none⟩))) (hres : Res n w u)
  (hR : R (.returned (.tuple #[u, .int .i64 0, .int .i64 0])) w) : Leaves Tryz.prog Tryz.f27 tmps R [dfr n] .returning w := by
 have c0 := cell_of hres.c0
 have c1 := cell_of hres.c1
 have c2 := cell_of hres.c2
 refine leaves_cons (f := 59) (args := #[.pointer (some ⟨n, 0, none⟩), .pointer (some ⟨n + 1, 0, none⟩), .pointer (some ⟨n + 2, 0, none⟩)]) (by simp) (by simp [go_sem, dfr]) ?_
 refine (catch_idle _ _ _ _).mono ?_
 rintro e u' w'' ⟨rfl, rfl, rfl⟩
 simp [Leaves, settle, results, Tryz.results27, go_sem, h2, h3, h4, c0, c1, c2]
 exact hR
set_option maxRecDepth 100000 in
theorem leave_wrong {R : Ending → World → Prop} {tmps : Array Value} {n b : Nat} {w : World} {u : Value} (h2 : tmps[2]? = some (.pointer (some ⟨n, 0, none⟩))) (h3 : tmps[3]? = some (.pointer (some ⟨n + 1, 0, none⟩))) (h4 : tmps[4]? = some (.pointer (some ⟨n + 2, 0, none⟩))) (hres : Res n w u)
  (hR : R (.returned (.tuple #[.slice none 0 0, .int .i64 (b : Int), .int .i64 90])) (((w.setCell ⟨n, 0, none⟩ (.slice none 0 0)).setCell ⟨n + 1, 0, none⟩ (.int .i64 (b : Int))).setCell ⟨n + 2, 0, none⟩ (.int .i64 90))) :
  Leaves Tryz.prog Tryz.f27 tmps R [dfr n] (.panicking [{ v := .iface 129 (.int .i64 (b : Int)), recovered := false }]) w := by
 refine leaves_cons (f := 59) (args := #[.pointer (some ⟨n, 0, none⟩), .pointer (some ⟨n + 1, 0, none⟩), .pointer (some ⟨n + 2, 0, none⟩)]) (by simp) (by simp [go_sem, dfr]) ?_
 refine (catch_wrong _ _ _ (b : Int) _ _ _ [] _ (cell_of hres.c0) (cell_of hres.c1) (cell_of hres.c2) (free_of hres.c0 0) (free_of hres.c1 0) (free_of hres.c2 0) (by simp) (by simp) (by simp)).mono ?_
 rintro e u' w'' ⟨rfl, rfl, rfl⟩
 obtain ⟨w3, hw3⟩ : ∃ w3, w3 = (((w.setCell ⟨n, 0, none⟩ (.slice none 0 0)).setCell ⟨n + 1, 0, none⟩ (.int .i64 (b : Int))).setCell ⟨n + 2, 0, none⟩ (.int .i64 90)) := ⟨_, rfl⟩
 have k0 : w3.cell? ⟨n, 0, none⟩ = some (.slice none 0 0) := by rw [hw3]; exact cell_of ((set_other (by omega)).trans ((set_other (by omega)).trans (set_one hres.c0)))
 have k1 : w3.cell? ⟨n + 1, 0, none⟩ = some (.int .i64 (b : Int)) := by rw [hw3]; exact cell_of ((set_other (by omega)).trans (set_one ((set_other (by omega)).trans hres.c1)))
 have k2 : w3.cell? ⟨n + 2, 0, none⟩ = some (.int .i64 90) := by rw [hw3]; exact cell_of (set_one ((set_other (by omega)).trans ((set_other (by omega)).trans hres.c2)))
 rw [← hw3] at hR ⊢
 simp [Leaves, settle, results, Tryz.results27, go_sem, h2, h3, h4, k0, k1, k2]
 exact hR
theorem Pan.normal {n : Nat} {C : List PanicEntry → World → Prop} {Q : Exit → Act → World → Prop} {a : Act} {w : World} (h : Q .normal a w) : Pan n C Q .normal a w := h
theorem Res.alloc {n : Nat} {w : World} {u : Value} (h : Res n w u) (o : Obj) : Res n (w.alloc o) u := ⟨heap_old h.c0, heap_old h.c1, heap_old h.c2⟩
theorem Res.grown {n : Nat} {w w' : World} {u : Value} {row : Option Nat} (h : Res n w u) (hg : w.grownBy w' row) (hr : ∀ r, row = some r → n + 4 ≤ r) : Res n w' u :=
 ⟨(hg.block n (lt_heap h.c0) (fun e => by have := hr n e.symm; omega)).trans h.c0, (hg.block (n + 1) (lt_heap h.c1) (fun e => by have := hr _ e.symm; omega)).trans h.c1, (hg.block (n + 2) (lt_heap h.c2) (fun e => by have := hr _ e.symm; omega)).trans h.c2⟩
theorem Res.fin {n : Nat} {w : World} {u : Value} (h : Res n w u) : Res n (((w.setCell ⟨n, 0, none⟩ u).setCell ⟨n + 1, 0, none⟩ (.int .i64 0)).setCell ⟨n + 2, 0, none⟩ (.int .i64 0)) u :=
 ⟨(set_other (by omega)).trans ((set_other (by omega)).trans (set_one h.c0)), (set_other (by omega)).trans (set_one ((set_other (by omega)).trans h.c1)), set_one ((set_other (by omega)).trans ((set_other (by omega)).trans h.c2))⟩
theorem OwnE.keepB {α : Type} {E : ElS α} {T : TypeId} {sz base br : Nat} {w w' : World} {v : Value} {l : List α} (hE : E.Keeps) (h : OwnE E T sz base br w v l) (hk : ∀ b, base ≤ b → b < w.heap.size → w'.heap[b]? = w.heap[b]?) (hs : w.heap.size ≤ w'.heap.size) : OwnE E T sz base br w' v l := by
 obtain ⟨xs, h1, h2⟩ := h.out
 exact ⟨xs, own_keep h1 (fun g hg => hk g (h1.lt g hg).1 (h1.lt g hg).2), fun i hi => hE _ _ _ _ _ _ (h2 i hi) (fun b hb hlt => hk b hb.2 hlt) hs (fun _ x _ => x)⟩
theorem if_of {c : Prop} [Decidable c] {A B : Prop} (hc : c) (h : A) : if c then A else B := by rw [if_pos hc]; exact h
theorem oper_append {P : Program} {o : Oper} {a : Act} {w : World} {K : Act → World → Prop} {Q : Exit → Act → World → Prop} (s x : Operand) (t : TypeId)
  (ho : o.op = .call { callee := .builtin .append, args := #[s, x], argTypes := #[t, t] })
  (base : Nat) (e : TypeId) (i : TypeInfo) (z : Value) (size bytes : Nat) (ht : P.underlying t = some (.slice e)) (hi : P.info? e = some i) (hz : i.zero = some z)
  (hsize : i.size = size) (hby : i.bytes = bytes) (hzs : z.cells.size = size) (hsz : 0 < size)
  (v : Value) (n : Nat) (xs : List Value) (hs : a.eval s = v) (hown : w.ownsRow base e size v n xs)
  (ad : Addr) (m c : Nat) (news : List Value) (hx : a.eval x = .slice (some ad) m c) (hl : news.length = m * size) (hnews : ∀ j u, news[j]? = some u → w.cell? (ad.add j) = some u) (h1 : ∀ u ∈ news, u.oneCell' = true)
  (h63 : n + m ≤ maxLen) (hbytes : (n + m) * bytes ≤ 140737488355328) (hbase : base ≤ w.heap.size)
  (h : ∀ v' w', w'.ownsRow base e size v' (n + m) (xs ++ news) → w.grownBy w' v.ownBlock → (v' = .slice none 0 0 ↔ v = .slice none 0 0 ∧ m = 0) → (v'.ownBlock = v.ownBlock ∨ v'.ownBlock = some w.heap.size) → K (a.put o.dst v') w') :
  Oper.wp P o a w K Q := by
 obtain ⟨v', w', hr, h2, h3, h4, h5⟩ := run_append_own_at (P := P) w base t o.type e i z size bytes ht hi hz hsize hby hzs hsz v n xs hown ad m c news hl hnews h1 h63 hbytes hbase
 unfold Oper.wp execOp
 simp only [ho, resolve, invoke, builtin, Sem.run_bind, Sem.run_pure, Result.andThen_ok, List.map_toArray, List.map_cons, List.map_nil, hs, hx, hr]
 exact h _ _ h2 h3 h4 h5
set_option maxRecDepth 100000 in
set_option maxHeartbeats 16000000 in
theorem parse_calls (s : ByteArray) (hsm : s.size ≤ 1048576) (w : World) : Calls Tryz.prog 27 #[.string s] w (ParseQ w (parseP s)) := by
 obtain ⟨i0, hi0, hz0, hz1, hz2⟩ := info_parts info_row
 have hmf : ∀ (fn : Fn) (first cap : Array Value) (w : World), (Instr.makeFunc fn first cap).run Tryz.prog w = .ok (.func fn first cap) w := fun _ _ _ _ => rfl
 obtain ⟨M, hM⟩ : ∃ M, M = parseP s := ⟨_, rfl⟩
 rw [← hM]
 unfold parseP at hM
 have HM := Lib.hid hM
 clear hM
 obtain ⟨w0, hw0⟩ : ∃ w0, ((((w.alloc (.cells #[.slice none 0 0] 24)).alloc (.cells #[.int .i64 0] 3)).alloc (.cells #[.int .i64 0] 64)).alloc (.cells #[.string s, .int .i64 0] 132)) = w0 := ⟨_, rfl⟩
 obtain ⟨n, hn⟩ : ∃ n, n = w.heap.size := ⟨_, rfl⟩
 have hs0 : w0.heap.size = n + 4 := by rw [← hw0, hn]; simp
 have hr0 : Res n w0 (.slice none 0 0) := by
  rw [← hw0]
  exact ⟨heap_old (heap_old (heap_old (heap_new hn))), heap_old (heap_old (heap_new (by simp; omega))), heap_old (heap_new (by simp; omega))⟩
 have hA0 : At s (n + 3) 0 w0 := by
  rw [← hw0]
  exact ⟨heap_new (by simp; omega), Nat.zero_le _, hsm⟩
 have hB0 : Below n w w0 := by
  rw [← hw0, hn]
  exact (((Below.refl _ _).alloc (Nat.le_refl _) _).alloc (by simp) _).alloc (by simp; omega) _ |>.alloc (by simp; omega) _
 have Hw0 := Lib.hid hw0; have HN := Lib.hid hn; have Hs0 := Lib.hid hs0; have Hr0 := Lib.hid hr0; have HA0 := Lib.hid hA0; have HB0 := Lib.hid hB0
 clear hw0 hn hs0 hr0 hA0 hB0
 go_enter_defers Tryz.func27, Tryz.ntmps27
 go_wp2_with fail
 simp only [← HN.out, Hw0.out, Nat.add_assoc, Nat.reduceAdd]
 have HC := Lib.hid (OwnE.nil (E := rowS) (T := 46) (sz := 1) (base := n + 4) (br := n + 3) (w := w0))
 go_loopg [] (s.size + 1) (fun g wr => ∃ (a : Nat) (l : Sel) (u : Value), Hid (OwnE rowS 46 1 (n + 4) (n + 3) wr u l) ∧ Hid (Res n wr u) ∧ Hid (At s (n + 3) a wr) ∧ Hid (n + 4 ≤ wr.heap.size) ∧ a ≤ s.size ∧ s.size < a + g ∧ l.length ≤ a ∧ Hid (M = parseLoop s g l a) ∧ Hid (Below n w wr))
 case atStart => exact ⟨0, [], _, HC, Hr0, HA0, Lib.hid (by rw [Hs0.out]; exact Nat.le_refl _), Nat.zero_le _, by omega, Nat.zero_le _, HM, HB0⟩
 case round =>
  clear HC HA0 HM HB0 Hr0 Hs0 Hw0
  obtain ⟨a, l, u, hC, hres, hA, hsz, has, hag, hla, hMl, hB⟩ := hrel
  obtain ⟨Ac, cc, rfl⟩ := hC.out.form
  obtain ⟨wo, rfl⟩ : ∃ wo : World, wo = wr := ⟨_, rfl⟩
  obtain ⟨g, rfl⟩ : ∃ g, gk = g + 1 := ⟨gk - 1, by omega⟩
  have hM := hMl.out
  rw [parseLoop] at hM
  have hcp := row_calls s (n + 3) a wo.drew hA.out.drew
  clear hMl
  have hbr : n + 3 < n + 4 := by omega
  cases hN : rowP s a with
  | error e1 =>
   rw [hN] at hM hcp
   try simp only at hM
   have HM := Lib.hid hM; have Hcp := Lib.hid hcp
   clear hM hcp
   obtain ⟨C0, hC0⟩ : ∃ C0 : List PanicEntry → World → Prop, C0 = fun c w' => c = [{ v := .iface 129 (.int .i64 (e1 : Int)), recovered := false }] ∧ ∃ u, Res n w' u ∧ Below n w w' := ⟨_, rfl⟩
   have HQ : ∀ c a w', Ptrs n a → C0 c w' → Leaves Tryz.prog Tryz.f27 a.tmps (ParseQ w M) a.defers (.panicking c) w' := fun c a w' hp hc => by
    rw [hC0] at hc
    obtain ⟨rfl, u, hr, hb⟩ := hc
    rw [hp.1]
    refine leave_wrong hp.2.1 hp.2.2.1 hp.2.2.2 hr ?_
    rw [HM.out]
    have hN := HN.out
    refine ⟨?_, rfl⟩
    rw [← hN]
    exact Off.toBelow (Y := fun b => n ≤ b) ((((Off.below hb (fun b _ h => h)).trans (Off.setCell _ ⟨n, 0, none⟩ _ (Nat.le_refl n))).trans (Off.setCell _ ⟨n + 1, 0, none⟩ _ (Nat.le_succ n))).trans (Off.setCell _ ⟨n + 2, 0, none⟩ _ (Nat.le_add_right n 2))) (by omega) (fun b h => h)
   go_upto_region 3 with fail
   refine wp_pan n C0 HQ ?_
   refine wp_region_held_drew (S := (fun w' => w'.cell? ⟨n, 0, none⟩ = some (.slice Ac l.length cc) ∧ w'.frozen? ⟨n, 0, none⟩ = false)) (by kernel_rfl) ⟨cell_of hres.out.c0, free_of hres.out.c0 0⟩ (fun hHeld => ?_)
   refine' wpAnyH_take (i := 0) (v := ?v0) rfl (by kernel_rfl) (by kernel_rfl) (by kernel_rfl) (fun c a w h => pan_put (k := 10) (by decide) h) (Or.inl ⟨by rfl, ?hy0⟩) (by assumption) ?rest0
   case hy0 => (intro w hSw; (try dsimp only at hSw); go_simp; (try with_reducible rfl))
   (try simp only [Act.put, List.setIfInBounds_toArray, List.set_cons_zero, List.set_cons_succ])
   refine' wpAnyH_take (i := 1) (v := ?v1) rfl (by kernel_rfl) (by kernel_rfl) (by kernel_rfl) (fun c a w h => pan_put (k := 11) (by decide) h) (Or.inl ⟨by rfl, ?hy1⟩) (by assumption) ?rest1
   case hy1 => (intro w hSw; (try dsimp only at hSw); go_simp; (try with_reducible rfl))
   (try simp only [Act.put, List.setIfInBounds_toArray, List.set_cons_zero, List.set_cons_succ])
   refine wpAnyH_ready (rs := [2]) (by kernel_rfl) (by simp) ?_
   refine AllReadyH.cons rfl (fun K hK => ?_) AllReadyH.nil
   go_simp
   go_at_call 60
   refine (Hcp.out).mono ?_
   rintro e w6 ⟨ho6, rfl⟩
   go_simp
   have hoD := (Off.drew (fun b => b = n + 3) wo).trans ho6
   exact ⟨⟨rfl, rfl, rfl, rfl⟩, rfl, ⟨_, hres.out.off hoD⟩, hB.out.trans (Off.toBelow hoD (by have := hsz.out; omega) (fun b e => by have : b = n + 3 := e; omega))⟩
  | ok x =>
   obtain ⟨r, a2⟩ := x
   rw [hN] at hM hcp
   have hok := row_ok hN has
   have hb2 : a < a2 ∧ a2 ≤ s.size := hok
   try simp only at hM
   have HM := Lib.hid hM; have Hcp := Lib.hid hcp
   clear hM hcp hN hok
   have HQ : ∀ c a w', Ptrs n a → (fun (_ : List PanicEntry) (_ : World) => False) c w' → Leaves Tryz.prog Tryz.f27 a.tmps (ParseQ w M) a.defers (.panicking c) w' := fun _ _ _ _ h => h.elim
   go_upto_region 3 with fail
   refine wp_pan n _ HQ ?_
   refine wp_region_held_drew (S := (fun _ => True)) (by kernel_rfl) trivial (fun hHeld => ?_)
   refine' wpAnyH_take (i := 1) (v := ?v1b) rfl (by kernel_rfl) (by kernel_rfl) (by kernel_rfl) (fun c a w h => pan_put (k := 11) (by decide) h) (Or.inl ⟨by rfl, ?hy1b⟩) (by assumption) ?rest1b
   case hy1b => (intro w hSw; (try dsimp only at hSw); go_simp; (try with_reducible rfl))
   (try simp only [Act.put, List.setIfInBounds_toArray, List.set_cons_zero, List.set_cons_succ])
   refine wpAnyH_ready (rs := [0, 2]) (by kernel_rfl) (by simp) ?_
   refine AllReadyH.cons rfl (fun K hK => ?_) (AllReadyH.cons rfl (fun K hK => ?_) AllReadyH.nil)
   ·have y0 := cell_of (hres.out.off (Off.drew _ wo)).c0
    go_simp
    refine hK.out _ _ trivial (fun hHeld => ?_)
    clear hK K
    (try simp only [Act.put, List.setIfInBounds_toArray, List.set_cons_zero, List.set_cons_succ])
    refine wpAnyH_ready (rs := [2]) (by kernel_rfl) (by simp) ?_
    refine AllReadyH.cons rfl (fun K hK => ?_) AllReadyH.nil
    go_simp
    go_at_call 60
    refine (Hcp.out).mono ?_
    rintro e w6 ⟨ho6, ⟨v6, rfl, hr6⟩, ha6⟩
    obtain ⟨A6, c6, rfl, _, _, _⟩ := id hr6
    have hoD := (Off.drew (fun b => b = n + 3) wo).trans ho6
    have hc6 := own_off rowS_keeps hC.out hoD hbr
    obtain ⟨xs, hx1, hx2⟩ := hc6.out
    have hown := hC.out.out.choose_spec.1
    have hres6 := hres.out.off hoD
    have hs6 := hoD.size
    have hsw := hsz.out
    have HX1 := Lib.hid hx1; have HX2 := Lib.hid hx2; have Hr6 := Lib.hid hr6; have Ha6 := Lib.hid ha6; have Hown := Lib.hid hown; have HoD := Lib.hid hoD; have Hres6 := Lib.hid hres6; have HS6 := Lib.hid hs6
    clear ho6 hr6 ha6 hc6 hx1 hx2 hown hoD hres6 hs6
    try go_simp
    refine hK.out _ _ trivial (fun hHeld => ?_)
    clear hK K
    (try simp only [Act.put, List.setIfInBounds_toArray, List.set_cons_zero, List.set_cons_succ])
    refine wpAnyH_ready (rs := [3]) (by kernel_rfl) (by simp) ?_
    refine AllReadyH.cons rfl (fun K hK => ?_) AllReadyH.nil
    go_simp
    refine hK.out _ _ trivial (fun hHeld => ?_)
    clear hK K
    (try simp only [Act.put, List.setIfInBounds_toArray, List.set_cons_zero, List.set_cons_succ])
    refine wpAnyH_ready (rs := [4]) (by kernel_rfl) (by simp) ?_
    refine AllReadyH.cons rfl (fun K hK => ?_) AllReadyH.nil
    refine if_of (by rfl) ?_
    refine oper_append (.tmp 10) (.tmp 13) 24 rfl (n + 4) 46 i0 _ 1 24 Tryz.underlying24 hi0 hz0 hz1 hz2 rfl (by decide) (.slice Ac l.length cc) l.length xs rfl (own_keep HX1.out (fun g hg => Below.heap_alloc _ _ _ (HX1.out.lt g hg).2)) ⟨w6.heap.size, 0, none⟩ 1 1 [.slice A6 r.length c6] rfl rfl (World.news_of_block (cs := #[.slice A6 r.length c6]) (t := 46) (fr := (0, 0)) (heap_alloc_new w6 _)) (by simp [Value.oneCell']) (by simp only [maxLen]; omega) (by omega) (by simp; have := HS6.out; omega) ?_
    intro v8 w8 hown8 hgrow8 hnil8 hat8
    have hs6 := HS6.out
    have hC8 : OwnE rowS 46 1 (n + 4) (n + 3) w8 v8 (l ++ [r]) := OwnE.more rowS_keeps (w := w6.alloc (.cells #[.slice A6 r.length c6] 46)) (own_keep HX1.out (fun g hg => Below.heap_alloc _ _ _ (HX1.out.lt g hg).2)) (fun i hi => rowS_keeps _ _ _ _ _ _ (HX2.out i hi) (fun b _ hb => Below.heap_alloc _ _ _ hb) (by simp) (fun _ x _ => x)) rfl
     ⟨_, rfl, Hr6.out.keep stepS_keeps (fun b _ hb => Below.heap_alloc _ _ _ hb) (by simp) (fun b hb _ => ⟨fun e => by have h1 : b < wo.heap.size := (Hown.out.lt b e).2; have h2 : wo.heap.size ≤ b := hb; omega, by have h2 : wo.heap.size ≤ b := hb; omega⟩)⟩ hown8 hgrow8 hat8
    have hA8 : At s (n + 3) a2 w8 := at_grown (at_alloc Ha6.out _) hgrow8 (base_ne HX1.out hbr)
    have hrow8 : ∀ r', (Value.slice Ac l.length cc).ownBlock = some r' → n + 4 ≤ r' := fun r' hr => (HX1.out.lt r' hr).1
    have hR8 : Res n w8 (.slice Ac l.length cc) := (Hres6.out.alloc _).grown hgrow8 hrow8
    have hO8 : Off (fun b => n ≤ b) w w8 := (((Off.below hB.out (fun b _ h => h)).trans (HoD.out.mono (fun b _ e => by have : b = n + 3 := e; show n ≤ b; omega))).trans (Off.alloc _ _ _)).trans (Off.grown hgrow8 (fun r' hr => by have := hrow8 r' hr; show n ≤ r'; omega))
    have hs8 : n + 4 ≤ w8.heap.size := by have := hgrow8.size; simp at this; omega
    obtain ⟨l8, hl8⟩ : ∃ l8 : Sel, l8 = l ++ [r] := ⟨_, rfl⟩
    have hl8l : l8.length ≤ a2 := by rw [hl8]; simp; omega
    rw [← hl8] at HM hC8
    clear hl8
    obtain ⟨A8, c8, rfl⟩ := hC8.form
    have HC8 := Lib.hid hC8; have HA8 := Lib.hid hA8; have HR8 := Lib.hid hR8; have HO8 := Lib.hid hO8; have HS8 := Lib.hid hs8
    clear hC8 hA8 hR8 hO8 hs8 hown8 hgrow8 hnil8 hat8 hrow8 HX1 HX2 Hr6 Ha6 Hown HoD Hres6 HS6 hs6
    refine hK.out _ _ trivial (fun hHeld => ?_)
    clear hK K
    (try simp only [Act.put, List.setIfInBounds_toArray, List.set_cons_zero, List.set_cons_succ])
    refine wpAnyH_ready (rs := [5]) (by kernel_rfl) (by simp) ?_
    refine AllReadyH.cons rfl (fun K hK => ?_) AllReadyH.nil
    have y0 := cell_of HR8.out.c0; have yf := free_of HR8.out.c0 0
    go_simp
    refine hK.out _ _ trivial (fun hHeld => ?_)
    clear hK K
    (try simp only [Act.put, List.setIfInBounds_toArray, List.set_cons_zero, List.set_cons_succ])
    refine wpAnyH_done (by kernel_rfl) ?_ _
    refine Pan.normal ?_
    clear Hcp HQ
    have hA9 := at_off HA8.out (b := n) (by omega) 0 (.slice A8 l8.length c8)
    have hC9 : OwnE rowS 46 1 (n + 4) (n + 3) (w8.setCell ⟨n, 0, none⟩ (.slice A8 l8.length c8)) (.slice A8 l8.length c8) l8 := HC8.out.keepB rowS_keeps (fun b h1 h2 => Below.heap_setCell _ _ _ _ (by show b ≠ n; omega)) (by simp [World.setCell])
    have hR9 := HR8.out.set (v := .slice A8 l8.length c8)
    have hO9 : Off (fun b => n ≤ b) w (w8.setCell ⟨n, 0, none⟩ (.slice A8 l8.length c8)) := HO8.out.trans (Off.setCell _ ⟨n, 0, none⟩ _ (Nat.le_refl n))
    have hs9 : n + 4 ≤ (w8.setCell ⟨n, 0, none⟩ (.slice A8 l8.length c8)).heap.size := by have := HS8.out; simpa [World.setCell] using this
    obtain ⟨w9, hw9⟩ : ∃ w9, w9 = w8.setCell ⟨n, 0, none⟩ (.slice A8 l8.length c8) := ⟨_, rfl⟩
    rw [← hw9] at hA9 hC9 hR9 hO9 hs9 ⊢
    clear hw9 HC8 HA8 HR8 HO8 HS8 y0
    have htk := took_lit s (n + 3) a2 44 44 rfl w9 hA9
    have hM := HM.out
    have hnw : n ≤ w.heap.size := by have := HN.out; omega
    have HC9 := Lib.hid hC9; have HR9 := Lib.hid hR9; have HO9 := Lib.hid hO9; have HS9 := Lib.hid hs9; have HL8 := Lib.hid hl8l; have HNW := Lib.hid hnw
    clear hC9 hR9 hO9 hs9 hA9 hl8l hnw HM
    cases hT : tookB s a2 44 with
    | true =>
     rw [hT, if_pos rfl] at htk hM
     have hlt := (took_lt hT).1
     have Htk := Lib.hid htk; have HM2 := Lib.hid hM
     clear htk hM hT
     go_wp2_with (go_at_call 61; (with_reducible refine (Htk.out).mono ?_); rintro e w10 ⟨rfl, ha, ho⟩; have HC10 := Lib.hid (own_off rowS_keeps HC9.out ho hbr); have HR10 := Lib.hid (HR9.out.off ho); have HA10 := Lib.hid ha; have HS10 := Lib.hid (Nat.le_trans HS9.out ho.size); have HB10 := Lib.hid (Off.toBelow (HO9.out.trans (ho.mono (fun b _ e => by have : b = n + 3 := e; show n ≤ b; omega))) HNW.out (fun b h => h)); clear ha ho)
     go_roundg g
     case measure => omega
     case rel => exact ⟨a2 + 1, l8, _, HC10, HR10, HA10, HS10, by omega, by omega, by have := HL8.out; omega, HM2, HB10⟩
    | false =>
     rw [hT, if_neg (by decide)] at htk hM
     have Htk := Lib.hid htk; have HM2 := Lib.hid hM
     clear htk hM hT
     go_wp2_with (go_at_call 61; (with_reducible refine (Htk.out).mono ?_); rintro e w10 ⟨rfl, ha, ho⟩; have HC10 := Lib.hid (own_off rowS_keeps HC9.out ho hbr); have hR10 := HR9.out.off ho; have HO10 := Lib.hid (HO9.out.trans (ho.mono (fun b _ e => by have : b = n + 3 := e; show n ≤ b; omega))); have c0 := cell_of hR10.c0; have c1 := cell_of hR10.c1; have c2 := cell_of hR10.c2; have f0 := free_of hR10.c0 0; have f1 := free_of hR10.c1 0; have f2 := free_of hR10.c2 0; have HR10 := Lib.hid hR10; clear ha ho hR10)
     refine leave_ok (n := n) (u := .slice A8 l8.length c8) rfl rfl rfl HR10.out.fin ?_
     rw [HM2.out]
     refine ⟨?_, _, rfl, ?_⟩
     ·have hN := HN.out
      rw [← hN]
      exact Off.toBelow (Y := fun b => n ≤ b) (((HO10.out.trans (Off.setCell _ ⟨n, 0, none⟩ _ (Nat.le_refl n))).trans (Off.setCell _ ⟨n + 1, 0, none⟩ _ (Nat.le_succ n))).trans (Off.setCell _ ⟨n + 2, 0, none⟩ _ (Nat.le_add_right n 2))) HNW.out (fun b h => h)
     ·have hk := HC10.out.keepB rowS_keeps (w' := ((w10.setCell ⟨n, 0, none⟩ (.slice A8 l8.length c8)).setCell ⟨n + 1, 0, none⟩ (.int .i64 0)).setCell ⟨n + 2, 0, none⟩ (.int .i64 0)) (fun b h1 h2 => (set_other (by omega)).trans ((set_other (by omega)).trans (set_other (by omega)))) (by simp [World.setCell])
      exact (hk.rd rowS_keeps hbr).keep rowS_keeps (fun _ _ _ => rfl) (Nat.le_refl _) (fun b h _ => by have := HN.out; have h2 : n + 4 ≤ b := h; show w.heap.size ≤ b; omega)
   ·go_simp
    go_at_call 60
    refine (Hcp.out).mono ?_
    rintro e w6 ⟨ho6, ⟨v6, rfl, hr6⟩, ha6⟩
    obtain ⟨A6, c6, rfl, _, _, _⟩ := id hr6
    have hoD := (Off.drew (fun b => b = n + 3) wo).trans ho6
    have hc6 := own_off rowS_keeps hC.out hoD hbr
    obtain ⟨xs, hx1, hx2⟩ := hc6.out
    have hown := hC.out.out.choose_spec.1
    have hres6 := hres.out.off hoD
    have hs6 := hoD.size
    have hsw := hsz.out
    have HX1 := Lib.hid hx1; have HX2 := Lib.hid hx2; have Hr6 := Lib.hid hr6; have Ha6 := Lib.hid ha6; have Hown := Lib.hid hown; have HoD := Lib.hid hoD; have Hres6 := Lib.hid hres6; have HS6 := Lib.hid hs6
    clear ho6 hr6 ha6 hc6 hx1 hx2 hown hoD hres6 hs6
    try go_simp
    refine hK.out _ _ trivial (fun hHeld => ?_)
    clear hK K
    (try simp only [Act.put, List.setIfInBounds_toArray, List.set_cons_zero, List.set_cons_succ])
    refine wpAnyH_ready (rs := [0, 3]) (by kernel_rfl) (by simp) ?_
    refine AllReadyH.cons rfl (fun K hK => ?_) (AllReadyH.cons rfl (fun K hK => ?_) AllReadyH.nil)
    ·have y0 := cell_of (Hres6.out).c0
     go_simp
     refine hK.out _ _ trivial (fun hHeld => ?_)
     clear hK K
     (try simp only [Act.put, List.setIfInBounds_toArray, List.set_cons_zero, List.set_cons_succ])
     refine wpAnyH_ready (rs := [3]) (by kernel_rfl) (by simp) ?_
     refine AllReadyH.cons rfl (fun K hK => ?_) AllReadyH.nil
     go_simp
     refine hK.out _ _ trivial (fun hHeld => ?_)
     clear hK K
     (try simp only [Act.put, List.setIfInBounds_toArray, List.set_cons_zero, List.set_cons_succ])
     refine wpAnyH_ready (rs := [4]) (by kernel_rfl) (by simp) ?_
     refine AllReadyH.cons rfl (fun K hK => ?_) AllReadyH.nil
     refine if_of (by rfl) ?_
     refine oper_append (.tmp 10) (.tmp 13) 24 rfl (n + 4) 46 i0 _ 1 24 Tryz.underlying24 hi0 hz0 hz1 hz2 rfl (by decide) (.slice Ac l.length cc) l.length xs rfl (own_keep HX1.out (fun g hg => Below.heap_alloc _ _ _ (HX1.out.lt g hg).2)) ⟨w6.heap.size, 0, none⟩ 1 1 [.slice A6 r.length c6] rfl rfl (World.news_of_block (cs := #[.slice A6 r.length c6]) (t := 46) (fr := (0, 0)) (heap_alloc_new w6 _)) (by simp [Value.oneCell']) (by simp only [maxLen]; omega) (by omega) (by simp; have := HS6.out; omega) ?_
     intro v8 w8 hown8 hgrow8 hnil8 hat8
     have hs6 := HS6.out
     have hC8 : OwnE rowS 46 1 (n + 4) (n + 3) w8 v8 (l ++ [r]) := OwnE.more rowS_keeps (w := w6.alloc (.cells #[.slice A6 r.length c6] 46)) (own_keep HX1.out (fun g hg => Below.heap_alloc _ _ _ (HX1.out.lt g hg).2)) (fun i hi => rowS_keeps _ _ _ _ _ _ (HX2.out i hi) (fun b _ hb => Below.heap_alloc _ _ _ hb) (by simp) (fun _ x _ => x)) rfl
      ⟨_, rfl, Hr6.out.keep stepS_keeps (fun b _ hb => Below.heap_alloc _ _ _ hb) (by simp) (fun b hb _ => ⟨fun e => by have h1 : b < wo.heap.size := (Hown.out.lt b e).2; have h2 : wo.heap.size ≤ b := hb; omega, by have h2 : wo.heap.size ≤ b := hb; omega⟩)⟩ hown8 hgrow8 hat8
     have hA8 : At s (n + 3) a2 w8 := at_grown (at_alloc Ha6.out _) hgrow8 (base_ne HX1.out hbr)
     have hrow8 : ∀ r', (Value.slice Ac l.length cc).ownBlock = some r' → n + 4 ≤ r' := fun r' hr => (HX1.out.lt r' hr).1
     have hR8 : Res n w8 (.slice Ac l.length cc) := (Hres6.out.alloc _).grown hgrow8 hrow8
     have hO8 : Off (fun b => n ≤ b) w w8 := (((Off.below hB.out (fun b _ h => h)).trans (HoD.out.mono (fun b _ e => by have : b = n + 3 := e; show n ≤ b; omega))).trans (Off.alloc _ _ _)).trans (Off.grown hgrow8 (fun r' hr => by have := hrow8 r' hr; show n ≤ r'; omega))
     have hs8 : n + 4 ≤ w8.heap.size := by have := hgrow8.size; simp at this; omega
     obtain ⟨l8, hl8⟩ : ∃ l8 : Sel, l8 = l ++ [r] := ⟨_, rfl⟩
     have hl8l : l8.length ≤ a2 := by rw [hl8]; simp; omega
     rw [← hl8] at HM hC8
     clear hl8
     obtain ⟨A8, c8, rfl⟩ := hC8.form
     have HC8 := Lib.hid hC8; have HA8 := Lib.hid hA8; have HR8 := Lib.hid hR8; have HO8 := Lib.hid hO8; have HS8 := Lib.hid hs8
     clear hC8 hA8 hR8 hO8 hs8 hown8 hgrow8 hnil8 hat8 hrow8 HX1 HX2 Hr6 Ha6 Hown HoD Hres6 HS6 hs6
     refine hK.out _ _ trivial (fun hHeld => ?_)
     clear hK K
     (try simp only [Act.put, List.setIfInBounds_toArray, List.set_cons_zero, List.set_cons_succ])
     refine wpAnyH_ready (rs := [5]) (by kernel_rfl) (by simp) ?_
     refine AllReadyH.cons rfl (fun K hK => ?_) AllReadyH.nil
     have y0 := cell_of HR8.out.c0; have yf := free_of HR8.out.c0 0
     go_simp
     refine hK.out _ _ trivial (fun hHeld => ?_)
     clear hK K
     (try simp only [Act.put, List.setIfInBounds_toArray, List.set_cons_zero, List.set_cons_succ])
     refine wpAnyH_done (by kernel_rfl) ?_ _
     refine Pan.normal ?_
     clear Hcp HQ
     have hA9 := at_off HA8.out (b := n) (by omega) 0 (.slice A8 l8.length c8)
     have hC9 : OwnE rowS 46 1 (n + 4) (n + 3) (w8.setCell ⟨n, 0, none⟩ (.slice A8 l8.length c8)) (.slice A8 l8.length c8) l8 := HC8.out.keepB rowS_keeps (fun b h1 h2 => Below.heap_setCell _ _ _ _ (by show b ≠ n; omega)) (by simp [World.setCell])
     have hR9 := HR8.out.set (v := .slice A8 l8.length c8)
     have hO9 : Off (fun b => n ≤ b) w (w8.setCell ⟨n, 0, none⟩ (.slice A8 l8.length c8)) := HO8.out.trans (Off.setCell _ ⟨n, 0, none⟩ _ (Nat.le_refl n))
     have hs9 : n + 4 ≤ (w8.setCell ⟨n, 0, none⟩ (.slice A8 l8.length c8)).heap.size := by have := HS8.out; simpa [World.setCell] using this
     obtain ⟨w9, hw9⟩ : ∃ w9, w9 = w8.setCell ⟨n, 0, none⟩ (.slice A8 l8.length c8) := ⟨_, rfl⟩
     rw [← hw9] at hA9 hC9 hR9 hO9 hs9 ⊢
     clear hw9 HC8 HA8 HR8 HO8 HS8 y0
     have htk := took_lit s (n + 3) a2 44 44 rfl w9 hA9
     have hM := HM.out
     have hnw : n ≤ w.heap.size := by have := HN.out; omega
     have HC9 := Lib.hid hC9; have HR9 := Lib.hid hR9; have HO9 := Lib.hid hO9; have HS9 := Lib.hid hs9; have HL8 := Lib.hid hl8l; have HNW := Lib.hid hnw
     clear hC9 hR9 hO9 hs9 hA9 hl8l hnw HM
     cases hT : tookB s a2 44 with
     | true =>
      rw [hT, if_pos rfl] at htk hM
      have hlt := (took_lt hT).1
      have Htk := Lib.hid htk; have HM2 := Lib.hid hM
      clear htk hM hT
      go_wp2_with (go_at_call 61; (with_reducible refine (Htk.out).mono ?_); rintro e w10 ⟨rfl, ha, ho⟩; have HC10 := Lib.hid (own_off rowS_keeps HC9.out ho hbr); have HR10 := Lib.hid (HR9.out.off ho); have HA10 := Lib.hid ha; have HS10 := Lib.hid (Nat.le_trans HS9.out ho.size); have HB10 := Lib.hid (Off.toBelow (HO9.out.trans (ho.mono (fun b _ e => by have : b = n + 3 := e; show n ≤ b; omega))) HNW.out (fun b h => h)); clear ha ho)
      go_roundg g
      case measure => omega
      case rel => exact ⟨a2 + 1, l8, _, HC10, HR10, HA10, HS10, by omega, by omega, by have := HL8.out; omega, HM2, HB10⟩
     | false =>
      rw [hT, if_neg (by decide)] at htk hM
      have Htk := Lib.hid htk; have HM2 := Lib.hid hM
      clear htk hM hT
      go_wp2_with (go_at_call 61; (with_reducible refine (Htk.out).mono ?_); rintro e w10 ⟨rfl, ha, ho⟩; have HC10 := Lib.hid (own_off rowS_keeps HC9.out ho hbr); have hR10 := HR9.out.off ho; have HO10 := Lib.hid (HO9.out.trans (ho.mono (fun b _ e => by have : b = n + 3 := e; show n ≤ b; omega))); have c0 := cell_of hR10.c0; have c1 := cell_of hR10.c1; have c2 := cell_of hR10.c2; have f0 := free_of hR10.c0 0; have f1 := free_of hR10.c1 0; have f2 := free_of hR10.c2 0; have HR10 := Lib.hid hR10; clear ha ho hR10)
      refine leave_ok (n := n) (u := .slice A8 l8.length c8) rfl rfl rfl HR10.out.fin ?_
      rw [HM2.out]
      refine ⟨?_, _, rfl, ?_⟩
      ·have hN := HN.out
       rw [← hN]
       exact Off.toBelow (Y := fun b => n ≤ b) (((HO10.out.trans (Off.setCell _ ⟨n, 0, none⟩ _ (Nat.le_refl n))).trans (Off.setCell _ ⟨n + 1, 0, none⟩ _ (Nat.le_succ n))).trans (Off.setCell _ ⟨n + 2, 0, none⟩ _ (Nat.le_add_right n 2))) HNW.out (fun b h => h)
      ·have hk := HC10.out.keepB rowS_keeps (w' := ((w10.setCell ⟨n, 0, none⟩ (.slice A8 l8.length c8)).setCell ⟨n + 1, 0, none⟩ (.int .i64 0)).setCell ⟨n + 2, 0, none⟩ (.int .i64 0)) (fun b h1 h2 => (set_other (by omega)).trans ((set_other (by omega)).trans (set_other (by omega)))) (by simp [World.setCell])
       exact (hk.rd rowS_keeps hbr).keep rowS_keeps (fun _ _ _ => rfl) (Nat.le_refl _) (fun b h _ => by have := HN.out; have h2 : n + 4 ≤ b := h; show w.heap.size ≤ b; omega)
    ·go_simp
     refine hK.out _ _ trivial (fun hHeld => ?_)
     clear hK K
     (try simp only [Act.put, List.setIfInBounds_toArray, List.set_cons_zero, List.set_cons_succ])
     refine wpAnyH_ready (rs := [0]) (by kernel_rfl) (by simp) ?_
     refine AllReadyH.cons rfl (fun K hK => ?_) AllReadyH.nil
     have y0 := cell_of (Hres6.out.alloc (.cells #[.slice A6 r.length c6] 46)).c0
     go_simp
     refine hK.out _ _ trivial (fun hHeld => ?_)
     clear hK K
     (try simp only [Act.put, List.setIfInBounds_toArray, List.set_cons_zero, List.set_cons_succ])
     refine wpAnyH_ready (rs := [4]) (by kernel_rfl) (by simp) ?_
     refine AllReadyH.cons rfl (fun K hK => ?_) AllReadyH.nil
     refine if_of (by rfl) ?_
     refine oper_append (.tmp 10) (.tmp 13) 24 rfl (n + 4) 46 i0 _ 1 24 Tryz.underlying24 hi0 hz0 hz1 hz2 rfl (by decide) (.slice Ac l.length cc) l.length xs rfl (own_keep HX1.out (fun g hg => Below.heap_alloc _ _ _ (HX1.out.lt g hg).2)) ⟨w6.heap.size, 0, none⟩ 1 1 [.slice A6 r.length c6] rfl rfl (World.news_of_block (cs := #[.slice A6 r.length c6]) (t := 46) (fr := (0, 0)) (heap_alloc_new w6 _)) (by simp [Value.oneCell']) (by simp only [maxLen]; omega) (by omega) (by simp; have := HS6.out; omega) ?_
     intro v8 w8 hown8 hgrow8 hnil8 hat8
     have hs6 := HS6.out
     have hC8 : OwnE rowS 46 1 (n + 4) (n + 3) w8 v8 (l ++ [r]) := OwnE.more rowS_keeps (w := w6.alloc (.cells #[.slice A6 r.length c6] 46)) (own_keep HX1.out (fun g hg => Below.heap_alloc _ _ _ (HX1.out.lt g hg).2)) (fun i hi => rowS_keeps _ _ _ _ _ _ (HX2.out i hi) (fun b _ hb => Below.heap_alloc _ _ _ hb) (by simp) (fun _ x _ => x)) rfl
      ⟨_, rfl, Hr6.out.keep stepS_keeps (fun b _ hb => Below.heap_alloc _ _ _ hb) (by simp) (fun b hb _ => ⟨fun e => by have h1 : b < wo.heap.size := (Hown.out.lt b e).2; have h2 : wo.heap.size ≤ b := hb; omega, by have h2 : wo.heap.size ≤ b := hb; omega⟩)⟩ hown8 hgrow8 hat8
     have hA8 : At s (n + 3) a2 w8 := at_grown (at_alloc Ha6.out _) hgrow8 (base_ne HX1.out hbr)
     have hrow8 : ∀ r', (Value.slice Ac l.length cc).ownBlock = some r' → n + 4 ≤ r' := fun r' hr => (HX1.out.lt r' hr).1
     have hR8 : Res n w8 (.slice Ac l.length cc) := (Hres6.out.alloc _).grown hgrow8 hrow8
     have hO8 : Off (fun b => n ≤ b) w w8 := (((Off.below hB.out (fun b _ h => h)).trans (HoD.out.mono (fun b _ e => by have : b = n + 3 := e; show n ≤ b; omega))).trans (Off.alloc _ _ _)).trans (Off.grown hgrow8 (fun r' hr => by have := hrow8 r' hr; show n ≤ r'; omega))
     have hs8 : n + 4 ≤ w8.heap.size := by have := hgrow8.size; simp at this; omega
     obtain ⟨l8, hl8⟩ : ∃ l8 : Sel, l8 = l ++ [r] := ⟨_, rfl⟩
     have hl8l : l8.length ≤ a2 := by rw [hl8]; simp; omega
     rw [← hl8] at HM hC8
     clear hl8
     obtain ⟨A8, c8, rfl⟩ := hC8.form
     have HC8 := Lib.hid hC8; have HA8 := Lib.hid hA8; have HR8 := Lib.hid hR8; have HO8 := Lib.hid hO8; have HS8 := Lib.hid hs8
     clear hC8 hA8 hR8 hO8 hs8 hown8 hgrow8 hnil8 hat8 hrow8 HX1 HX2 Hr6 Ha6 Hown HoD Hres6 HS6 hs6
     refine hK.out _ _ trivial (fun hHeld => ?_)
     clear hK K
     (try simp only [Act.put, List.setIfInBounds_toArray, List.set_cons_zero, List.set_cons_succ])
     refine wpAnyH_ready (rs := [5]) (by kernel_rfl) (by simp) ?_
     refine AllReadyH.cons rfl (fun K hK => ?_) AllReadyH.nil
     have y0 := cell_of HR8.out.c0; have yf := free_of HR8.out.c0 0
     go_simp
     refine hK.out _ _ trivial (fun hHeld => ?_)
     clear hK K
     (try simp only [Act.put, List.setIfInBounds_toArray, List.set_cons_zero, List.set_cons_succ])
     refine wpAnyH_done (by kernel_rfl) ?_ _
     refine Pan.normal ?_
     clear Hcp HQ
     have hA9 := at_off HA8.out (b := n) (by omega) 0 (.slice A8 l8.length c8)
     have hC9 : OwnE rowS 46 1 (n + 4) (n + 3) (w8.setCell ⟨n, 0, none⟩ (.slice A8 l8.length c8)) (.slice A8 l8.length c8) l8 := HC8.out.keepB rowS_keeps (fun b h1 h2 => Below.heap_setCell _ _ _ _ (by show b ≠ n; omega)) (by simp [World.setCell])
     have hR9 := HR8.out.set (v := .slice A8 l8.length c8)
     have hO9 : Off (fun b => n ≤ b) w (w8.setCell ⟨n, 0, none⟩ (.slice A8 l8.length c8)) := HO8.out.trans (Off.setCell _ ⟨n, 0, none⟩ _ (Nat.le_refl n))
     have hs9 : n + 4 ≤ (w8.setCell ⟨n, 0, none⟩ (.slice A8 l8.length c8)).heap.size := by have := HS8.out; simpa [World.setCell] using this
     obtain ⟨w9, hw9⟩ : ∃ w9, w9 = w8.setCell ⟨n, 0, none⟩ (.slice A8 l8.length c8) := ⟨_, rfl⟩
     rw [← hw9] at hA9 hC9 hR9 hO9 hs9 ⊢
     clear hw9 HC8 HA8 HR8 HO8 HS8 y0
     have htk := took_lit s (n + 3) a2 44 44 rfl w9 hA9
     have hM := HM.out
     have hnw : n ≤ w.heap.size := by have := HN.out; omega
     have HC9 := Lib.hid hC9; have HR9 := Lib.hid hR9; have HO9 := Lib.hid hO9; have HS9 := Lib.hid hs9; have HL8 := Lib.hid hl8l; have HNW := Lib.hid hnw
     clear hC9 hR9 hO9 hs9 hA9 hl8l hnw HM
     cases hT : tookB s a2 44 with
     | true =>
      rw [hT, if_pos rfl] at htk hM
      have hlt := (took_lt hT).1
      have Htk := Lib.hid htk; have HM2 := Lib.hid hM
      clear htk hM hT
      go_wp2_with (go_at_call 61; (with_reducible refine (Htk.out).mono ?_); rintro e w10 ⟨rfl, ha, ho⟩; have HC10 := Lib.hid (own_off rowS_keeps HC9.out ho hbr); have HR10 := Lib.hid (HR9.out.off ho); have HA10 := Lib.hid ha; have HS10 := Lib.hid (Nat.le_trans HS9.out ho.size); have HB10 := Lib.hid (Off.toBelow (HO9.out.trans (ho.mono (fun b _ e => by have : b = n + 3 := e; show n ≤ b; omega))) HNW.out (fun b h => h)); clear ha ho)
      go_roundg g
      case measure => omega
      case rel => exact ⟨a2 + 1, l8, _, HC10, HR10, HA10, HS10, by omega, by omega, by have := HL8.out; omega, HM2, HB10⟩
     | false =>
      rw [hT, if_neg (by decide)] at htk hM
      have Htk := Lib.hid htk; have HM2 := Lib.hid hM
      clear htk hM hT
      go_wp2_with (go_at_call 61; (with_reducible refine (Htk.out).mono ?_); rintro e w10 ⟨rfl, ha, ho⟩; have HC10 := Lib.hid (own_off rowS_keeps HC9.out ho hbr); have hR10 := HR9.out.off ho; have HO10 := Lib.hid (HO9.out.trans (ho.mono (fun b _ e => by have : b = n + 3 := e; show n ≤ b; omega))); have c0 := cell_of hR10.c0; have c1 := cell_of hR10.c1; have c2 := cell_of hR10.c2; have f0 := free_of hR10.c0 0; have f1 := free_of hR10.c1 0; have f2 := free_of hR10.c2 0; have HR10 := Lib.hid hR10; clear ha ho hR10)
      refine leave_ok (n := n) (u := .slice A8 l8.length c8) rfl rfl rfl HR10.out.fin ?_
      rw [HM2.out]
      refine ⟨?_, _, rfl, ?_⟩
      ·have hN := HN.out
       rw [← hN]
       exact Off.toBelow (Y := fun b => n ≤ b) (((HO10.out.trans (Off.setCell _ ⟨n, 0, none⟩ _ (Nat.le_refl n))).trans (Off.setCell _ ⟨n + 1, 0, none⟩ _ (Nat.le_succ n))).trans (Off.setCell _ ⟨n + 2, 0, none⟩ _ (Nat.le_add_right n 2))) HNW.out (fun b h => h)
      ·have hk := HC10.out.keepB rowS_keeps (w' := ((w10.setCell ⟨n, 0, none⟩ (.slice A8 l8.length c8)).setCell ⟨n + 1, 0, none⟩ (.int .i64 0)).setCell ⟨n + 2, 0, none⟩ (.int .i64 0)) (fun b h1 h2 => (set_other (by omega)).trans ((set_other (by omega)).trans (set_other (by omega)))) (by simp [World.setCell])
       exact (hk.rd rowS_keeps hbr).keep rowS_keeps (fun _ _ _ => rfl) (Nat.le_refl _) (fun b h _ => by have := HN.out; have h2 : n + 4 ≤ b := h; show w.heap.size ≤ b; omega)
end Go.Proofs.YtmbhkkophkccbaaGreat.Pa
end
section
namespace Go.Proofs
open Go.Shelf
def Tryz.lays112_ren : Go.Shelf.Ren := ⟨fun | 112 => 115 | n => n, fun | 28 => 34 | 3 => 3 | 4 => 4 | 0 => 0 | n => n, fun | n => n⟩
theorem Tryz.lays112 : Go.Proofs.Lays.n112 Tryz.prog Tryz.lays112_ren := {
 mixed := by kernel_rfl
 f112 := Tryz.func115.trans (congrArg some (by kernel_rfl))
 t0 := Tryz.underlying0
 a0 := Tryz.isAgg0
 z0 := Tryz.sizeOf0
 v0 := Tryz.zeroValue0
 t3 := Tryz.underlying3
 a3 := Tryz.isAgg3
 z3 := Tryz.sizeOf3
 v3 := Tryz.zeroValue3
 t4 := Tryz.underlying4
 a4 := Tryz.isAgg4
 z4 := Tryz.sizeOf4
 v4 := Tryz.zeroValue4
 t28 := Tryz.underlying34
 a28 := Tryz.isAgg34
 z28 := Tryz.sizeOf34
 v28 := Tryz.zeroValue34 }
open Go.RowKit Go.Lib Go.Sort in
theorem Tryz.slices_Reverse_int (blk off cap : Nat) (zs : List Int) (w : World) (hH : Holds (Value.int .i64) w blk off zs.toArray) (hsz : zs.length ≤ 9223372036854775807) :
  Calls Tryz.prog 115 #[.slice (some ⟨blk, off, none⟩) zs.length cap] w fun e w' => e = .returned (.tuple #[]) ∧ ∃ n, w' = putRow (Value.int .i64) (Sort.ahead w n) blk off zs.reverse.toArray := Any.slices_Reverse_int Tryz.lays112 blk off cap zs w hH hsz
open Go.RowKit Go.Lib Go.Sort in
theorem Tryz.slices_Reverse_int_empty (a : Option Addr) (cap : Nat) (w : World) :
  Calls Tryz.prog 115 #[.slice a 0 cap] w fun e w' => e = .returned (.tuple #[]) ∧ w' = w := Any.slices_Reverse_int_empty Tryz.lays112 a cap w
end Go.Proofs
end
section
namespace Go.Proofs.YtmbhkkophkccbaaGreat.Fn
open Go Go.RowKit Go.Proofs.YtmbhkkophkccbaaGreat.Seq WS FS Mem Rd Shapes Word FFam Work
set_option linter.unusedVariables false
set_option linter.unusedSimpArgs false
theorem upL_length (f : Fo) : ∀ (n : Nat) (i : Int), (upL f n i).length = n
 | 0, _ => rfl
 | n + 1, i => by rw [upL, List.length_cons, upL_length f n]
theorem upL_node {f : Fo} (hm : mayB f = true) : ∀ (n : Nat) (i : Int), Up f n i → i < f.length → ∀ x ∈ upL f n i, isNode f x = true
 | 0, _, _, _, x, hx => by cases hx
 | n + 1, i, h, hi, x, hx => by
  rw [upL, List.mem_cons] at hx
  have hn : isNode f i = true := (node_iff f i).2 ⟨h.1, hi⟩
  rcases hx with rfl | hx
  ·exact hn
  ·obtain ⟨k, rfl, hk⟩ := node_nat hn
   exact upL_node hm n _ h.2 ((may_is hm).par k hk).2.1 x hx
theorem up_len {f : Fo} (hm : mayB f = true) {n : Nat} {i : Int} (h : Up f n i) (hi : i < f.length) : n ≤ 60 := by
 by_cases h0 : 0 ≤ i
 ·have := (depth_le (may_is hm) ((node_iff f i).2 ⟨h0, hi⟩) h).2
  have := (may_len hm).2
  omega
 ·cases n with
  | zero => omega
  | succ n => exact absurd h.1 h0
set_option maxRecDepth 100000 in
set_option maxHeartbeats 4000000 in
theorem above_calls (w : World) (v : Value) (f : Fo) (h : RdF w.heap.size w v f) (hm : mayB f = true) (id : Nat) (hid : id < f.length) (N : Nat) (hN : Up f N id) :
  Calls Tryz.prog 50 #[v, .int .i64 (id : Int)] w fun e w' => ∃ A c, e = .returned (.slice A N c) ∧ RdL (intE .i64) 1 w'.heap.size w' (.slice A N c) (upL f N id).reverse ∧ Below w.heap.size w w' := by
 have hrd := fun w' (hb : Below w.heap.size w w') => (h.below nodeE_keeps (w' := w') hb (Nat.le_refl _))
 obtain ⟨A0, c0, rfl, hl0, hc0, _⟩ := h.form
 simp only [maxLen] at hc0
 have hN60 := up_len hm hN (by omega)
 have hN1 : 0 < N := by
  rcases Nat.eq_zero_or_pos N with e | e
  ·subst e; have : (id : Int) < 0 := hN; omega
  ·exact e
 have hwfs : ∀ x ∈ (upL f N id).reverse, (Lit.int .i64 x).wf = true := fun x hx => by
  obtain ⟨k, rfl, hk⟩ := node_nat (upL_node hm N id hN (by omega) x (List.mem_reverse.1 hx))
  exact FTops.wf_i64 (by have := (may_len hm).2; omega) (by have := (may_len hm).2; omega)
 have hpar : ∀ x : Nat, x < f.length → -1 ≤ (at_ f (x : Int)).parent ∧ (at_ f (x : Int)).parent < f.length := fun x hx => ⟨((may_is hm).par x hx).1, ((may_is hm).par x hx).2.1⟩
 have hlen := (may_len hm).2
 have Hrd := Lib.hid hrd; have HN := Lib.hid hN; have Hwf := Lib.hid hwfs; have Hpar := Lib.hid hpar
 clear hrd hN hwfs hpar h hm
 go_enter Tryz.func50, Tryz.ntmps50
 go_wp2_with fail
 go_loopg [1, 4] N (fun g i u wr => ∃ (j : Int) (L : List Int), i = .int .i64 j ∧ Hid (Up f g j) ∧ -1 ≤ j ∧ j < f.length ∧ L.length + g = N ∧ Hid (L ++ upL f g j = upL f N id) ∧ Hid (wr.ownsRow w.heap.size 3 1 u L.length (L.map (Value.int .i64))) ∧ Hid (Below w.heap.size w wr))
 case atStart => exact ⟨id, [], rfl, HN, by omega, by omega, by simp, Lib.hid rfl, Lib.hid (World.ownsRow_nil _ _ _ _), Lib.hid (Below.refl _ _)⟩
 case round =>
  obtain ⟨j, L, rfl, hup, hj0, hj1, hlg, hLe, hrow, hb⟩ := hrel
  obtain ⟨Ar, cr, rfl⟩ := LShown.slice_of hrow.out
  by_cases h1 : j = -1
  ·subst h1
   have hg0 : gk = 0 := by
    cases gk with
    | zero => rfl
    | succ g => have : (0 : Int) ≤ -1 := hup.out.1; omega
   subst hg0
   have hL : L = upL f N id := by have := hLe.out; rw [upL, List.append_nil] at this; exact this
   obtain ⟨g, cap, e1, hg1, hg2, hg3, hg4, _, hH⟩ := Lib.holds_of_ownsRow hrow.out (by intro e; injection e with _ e _; omega)
   injection e1 with e1 _ e2
   subst e1 e2
   have hrev := Tryz.slices_Reverse_int g 0 cr L wr hH (by omega)
   have hput := fun q => Lib.ownsRow_putRow (q := q) (ys := L.reverse) (k := L.length) hrow.out (by simp) (Nat.le_refl _)
   have hbel := fun q => Lib.below_putRow (enc := Value.int .i64) (q := q) (d := L.reverse.toArray) hb.out hg1
   have Hrev := Lib.hid hrev; have Hput := Lib.hid hput; have Hbel := Lib.hid hbel
   have HL := Lib.hid hL
   clear hrev hput hbel hrow hb hLe hup hL hH
   go_wp2_with (go_at_call 115; (with_reducible refine (Hrev.out).mono ?_); rintro e w5 ⟨rfl, q, rfl⟩)
   go_ret
   have hn : L.length = N := by omega
   have hp := Hput.out q
   rw [List.take_of_length_le (by simp)] at hp
   rw [← HL.out]
   refine ⟨_, _, by rw [← hn]; rfl, ?_, Hbel.out q⟩
   rw [← hn]
   refine RdL.of_own hp (by simp) (fun g hg => (hp.lt g hg).2) (fun i hi => ⟨?_, Hwf.out _ (by rw [← HL.out]; exact List.getElem_mem _)⟩)
   rw [Nat.mul_one, List.drop_eq_getElem_cons (by simpa using hi)]
   simp
  ·obtain ⟨x, rfl⟩ : ∃ x : Nat, j = x := ⟨j.toNat, by omega⟩
   have hx : x < f.length := by omega
   have hx1 : ((x : Int) != -1) = true := by rw [bne_iff_ne]; omega
   obtain ⟨g, rfl⟩ : ∃ g, gk = g + 1 := by
    cases gk with
    | zero => have : (x : Int) < 0 := hup.out; omega
    | succ g => exact ⟨g, rfl⟩
   have hL2 : (L ++ [(x : Int)]) ++ upL f g (at_ f (x : Int)).parent = upL f N id := by
    have := hLe.out
    rw [upL] at this
    rw [List.append_assoc]
    exact this
   have hup2 := hup.out.2
   have hp := Hpar.out x hx
   have HL2 := Lib.hid hL2; have Hup2 := Lib.hid hup2
   have HB := Lib.hid hb.out.size
   have hxI : (x : Int) < (f.length : Int) := by omega
   have hx0 : (0 : Int) ≤ (x : Int) := by omega
   have hrow' : wr.ownsRow w.heap.size 3 1 (.slice Ar L.length cr) (L.map (Value.int .i64)).length (L.map (Value.int .i64)) := by rw [List.length_map]; exact hrow.out
   have Hrow' := Lib.hid hrow'
   clear hup hLe hL2 hup2 hrow'
   go_upto_region 2 with (at_builtin; go_loud (refine Mem.pl_append _ w.heap.size rfl _ _ 34 3 (.int .i64 0) 8 rfl Tryz.underlying34 info_int rfl (.slice Ar L.length cr) (L.map (Value.int .i64)) (.int .i64 (x : Int)) rfl (by simp [Act.eval]) rfl Hrow'.out HB.out (by rw [List.length_map]; omega) (by rw [List.length_map]; simp [maxLen]; omega) ?_); rintro v7 w7 hown7 hgrow7 ⟨g7, cap7, rfl, hat⟩; have Hown7 := Lib.hid hown7; have Hgrow7 := Lib.hid hgrow7; clear hown7 hgrow7 hat)
   have hb7 := FTops.grown_below hb.out Hgrow7.out hrow.out (Nat.le_refl _)
   obtain ⟨b', o', _, _, _, _, hA7, _, _, _, _, _, n4, _⟩ := node_at (Hrd.out w7 hb7) hx
   subst hA7
   rw [← at_nat hx] at n4
   generalize (at_ f (x : Int)).parent = pr at *
   have Hb7 := Lib.hid hb7
   clear hb7
   go_wp2_with fail
   go_roundg g
   case measure => omega
   case rel =>
    refine ⟨pr, L ++ [(x : Int)], rfl, Hup2, hp.1, hp.2, by rw [List.length_append, List.length_singleton]; omega, HL2, Lib.hid ?_, Hb7⟩
    have h9 := Hown7.out
    rw [show L.map (Value.int .i64) ++ [Value.int .i64 (x : Int)] = (L ++ [(x : Int)]).map (Value.int .i64) by simp] at h9
    simpa only [List.length_map, List.length_append, List.length_singleton] using h9
end Go.Proofs.YtmbhkkophkccbaaGreat.Fn
end
