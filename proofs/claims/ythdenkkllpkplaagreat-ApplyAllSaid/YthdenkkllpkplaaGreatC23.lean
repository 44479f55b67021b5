/- Joined by a program: R7I. -/
import Derived.Deep.AppendLies
import Derived.Test.YthdenkkllpkplaaGreatC22
import Derived.Test.YthdenkkllpkplaaGreatC20
section
/- treillageref07: insert. -/
namespace Go.Proofs.YthdenkkllpkplaaGreat.R7
open Go Go.RowKit Go.Proofs.YthdenkkllpkplaaGreat.Seq Go.Proofs.YthdenkkllpkplaaGreat.WS Go.Proofs.YthdenkkllpkplaaGreat.FS Go.Proofs.YthdenkkllpkplaaGreat.Mem Go.Proofs.YthdenkkllpkplaaGreat.Rd Go.Proofs.YthdenkkllpkplaaGreat.Shapes Go.Proofs.YthdenkkllpkplaaGreat.Word Go.Proofs.YthdenkkllpkplaaGreat.FFam Go.Proofs.YthdenkkllpkplaaGreat.OwnF
set_option linter.unusedVariables false
set_option linter.unusedSimpArgs false
/-- At a step of a drawn region: any slice appended onto a row of the call's own. -/
theorem step_any {P : Program} {ops : Array Oper} {o : Oper} {a : Act} {K : Act → World → Prop} {Q : Exit → Act → World → Prop} {E : Prop} (W : World) (hgd : o.guard = none) (s x : Operand) (t e : TypeId) (size bytes : Nat) (z : Value) (i0 : TypeInfo)
    (ho : o.op = .call { callee := .builtin .append, args := #[s, x], argTypes := #[t, t] }) (ht : P.underlying t = some (.slice e)) (hi : P.info? e = some i0) (hz0 : i0.zero = some z) (hz1 : i0.size = size) (hz2 : i0.bytes = bytes) (hzs : z.cells.size = size) (hsz : 0 < size)
    (B : Nat) (v : Value) (n : Nat) (xs : List Value) (A : Option Addr) (m c : Nat) (news : List Value) (hs : a.eval s = v) (hown : W.ownsRow B e size v n xs) (hx : a.eval x = .slice A m c) (hA : A = none → m = 0) (hl : news.length = m * size)
    (hnews : ∀ ad, A = some ad → ∀ j u, news[j]? = some u → W.cell? (ad.add j) = some u) (h1 : ∀ u ∈ news, u.oneCell' = true) (h63 : n + m ≤ maxLen) (hby : (n + m) * bytes ≤ 140737488355328) (hB : B ≤ W.heap.size)
    (h : ∀ v' w1, w1.ownsRow B e size v' (n + m) (xs ++ news) → W.grownBy w1 v.ownBlock → (v'.ownBlock = v.ownBlock ∨ v'.ownBlock = some W.heap.size) → K (a.put o.dst v') w1) :
    if Region.wanted o (yielded ops a.tmps) = true then Oper.wp P o a W K Q else E := by
  have hw : Region.wanted o (yielded ops a.tmps) = true := by simp [Region.wanted, hgd]
  rw [if_pos hw]
  cases A with
  | some ad =>
    obtain ⟨v', w', hr, h2, h3, _, h5⟩ := run_append_own_at (P := P) W B t o.type e i0 z size bytes ht hi hz0 hz1 hz2 hzs hsz v n xs hown ad m c news hl (hnews ad rfl) h1 h63 hby hB
    unfold Oper.wp execOp
    simp only [ho, resolve, invoke, builtin, Sem.run_bind, Sem.run_pure, Result.andThen_ok, List.map_toArray, List.map_cons, List.map_nil, hs, hx, hr]
    exact h v' w' h2 h3 h5
  | none =>
    have hm := hA rfl
    subst hm
    have hnl : news = [] := List.eq_nil_of_length_eq_zero (by omega)
    subst hnl
    have hrun := PlA.run_append_none (P := P) (w := W) B t o.type e i0 size c ht hi v n xs hown
    unfold Oper.wp execOp
    simp only [ho, resolve, invoke, builtin, Sem.run_bind, Sem.run_pure, Result.andThen_ok, List.map_toArray, List.map_cons, List.map_nil, hs, hx, hrun]
    refine h v W ?_ ?_ (.inl rfl)
    · show W.ownsRow B e size v (n + 0) (xs ++ [])
      rw [List.append_nil]
      exact hown
    · exact ⟨rfl, rfl, rfl, Nat.le_refl _, fun _ _ _ => rfl⟩
theorem one_news {w : World} {B : Nat} {x : Value} (h : w.cell? ⟨B, 0, none⟩ = some x) : ∀ ad, some (⟨B, 0, none⟩ : Addr) = some ad → ∀ (j : Nat) u, [x][j]? = some u → w.cell? (ad.add j) = some u := by
  intro ad e j u hj
  injection e with e
  subst e
  have hj0 : j = 0 := by have := (List.getElem?_eq_some_iff.1 hj).1; simp at this; omega
  subst hj0
  simp at hj
  rw [Addr.add_lit, ← hj]
  exact h
theorem take_news {w : World} {b0 g c k : Nat} {T : TypeId} {L : List Int} (h : w.ownsRow b0 T 1 (.slice (some ⟨g, 0, none⟩) L.length c) L.length (L.map (Value.int .i64))) : ∀ ad, some (⟨g, 0, none⟩ : Addr) = some ad → ∀ (j : Nat) u, ((L.take k).map (Value.int .i64))[j]? = some u → w.cell? (ad.add j) = some u := by
  intro ad e j u hj
  injection e with e
  subst e
  refine h.cells rfl j u ?_
  rw [List.getElem?_map, List.getElem?_take] at hj
  rw [List.getElem?_map]
  split at hj
  · exact hj
  · cases hj
theorem drop_news {w : World} {b0 g c k : Nat} {T : TypeId} {L : List Int} (h : w.ownsRow b0 T 1 (.slice (some ⟨g, 0, none⟩) L.length c) L.length (L.map (Value.int .i64))) : ∀ ad, some (⟨g, k, none⟩ : Addr) = some ad → ∀ (j : Nat) u, ((L.drop k).map (Value.int .i64))[j]? = some u → w.cell? (ad.add j) = some u := by
  intro ad e j u hj
  injection e with e
  subst e
  have := h.cells (g := g) rfl (k + j) u (by rw [List.getElem?_map, List.getElem?_drop] at hj; rw [List.getElem?_map]; exact hj)
  rw [Addr.add_lit] at this ⊢
  rwa [show 0 + (k + j) = k + j by omega] at this
theorem ins_rd {w : World} {base g n : Nat} {v : Value} {X : List Int} {xs : List Value} (h : w.ownsRow base 3 1 v n xs) (hn : X.length = n) (hx : xs = X.map (Value.int .i64)) (hg : g < base) (hw : ∀ y ∈ X, (Lit.int .i64 y).wf = true) : RdS intS 1 (fun b => b ≠ g) w v X := by
  subst hx
  exact RdS.of_own h hn (fun g' hg' => by have h1 := (h.lt g' hg').1; show g' ≠ g; omega) (fun i hi => ⟨by rw [Nat.mul_one, List.drop_eq_getElem_cons (by simpa using hi)]; simp, hw _ (List.getElem_mem hi)⟩)
theorem none_news {w : World} {xs : List Value} : ∀ ad, (none : Option Addr) = some ad → ∀ (j : Nat) u, xs[j]? = some u → w.cell? (ad.add j) = some u := by
  intro ad e
  cases e
set_option maxRecDepth 100000 in
set_option maxHeartbeats 8000000 in
theorem insert_calls (w : World) (f : Fo) (v : Value) (o : Opn) (h : RdF w.heap.size w v f) (hm : mayB f = true) (hmo : mayO o = true) (hk : o.kind = 4) (hta : ∀ n ∈ f, n.attrs.length ≤ 1000) :
    Calls Tryz.prog 63 #[v, opV o] w (RefPost f o w) := by
  obtain ⟨W0, hW0⟩ : ∃ W0, w.alloc (.cells #[.int .i64 o.kind, .int .i64 o.id, .int .i64 o.to, .int .i64 o.at_, .string o.name, .string o.text] 40) = W0 := ⟨_, rfl⟩
  have hrow : W0.heap[w.heap.size]? = some (.cells (OpMay.opRow o) 40 (0, 0)) := by rw [← hW0]; exact World.alloc_heap_new w _
  have hb0 : Below w.heap.size w W0 := by rw [← hW0]; exact (Below.refl _ _).alloc (Nat.le_refl _) _
  have hbox := fun w' (hb : Below W0.heap.size W0 w') => rop_cells ((hb.block w.heap.size (lt_heap hrow)).trans hrow)
  have hrd := fun w' (hb : Below w.heap.size w w') => (h.below nodeE_keeps (w' := w') hb (Nat.le_refl _)).mono nodeE_keeps hb.size
  have hcp := fun w' (hb : Below w.heap.size w w') => copied_calls w' _ f (hrd w' hb) (by have := (may_len hm).2; omega) hta (fun n hn => by have := Work.may_kids hm n hn; omega)
  have hbl := fun w' (hb : Below w.heap.size w w') (top id : Int) => R5.Below_calls w' f _ top id (hrd w' hb) hm
  have hlen := may_len hm
  obtain ⟨A0, c0, rfl, hl0, hc0, h'⟩ := h.form
  simp only [maxLen] at hc0
  obtain ⟨z0, z1, z2, z3, z4, z5, zf⟩ := hbox W0 (Below.refl _ _)
  have hE := insert_E (f := f) hmo hk
  have herr := fun (E : Int) (he : oneE f o = E) (h0 : E ≠ 0) => one_err (f := f) (o := o) (by rw [he]; exact h0)
  have hdo : oneE f o = 0 → oneF f o = insertF f o := fun e => by
    unfold oneF doF
    rw [if_pos e, if_neg (by omega), if_pos hk]
  have hs0 : W0.heap.size = w.heap.size + 1 := by rw [← hW0]; simp
  have Hs0 := Lib.hid hs0
  clear hs0
  have HW0 := Lib.hid hW0; have HB0 := Lib.hid hb0; have Hbox := Lib.hid hbox; have Hrd := Lib.hid hrd; have Hcp := Lib.hid hcp; have Hdo := Lib.hid hdo; have Herr := Lib.hid herr; have Hbl := Lib.hid hbl
  clear hW0 hb0 hbox hrd hcp hdo herr hrow h h' hk hbl
  by_cases hn : isNode f o.id = true
  · rw [if_pos hn] at hE
    obtain ⟨n, hid, hnl⟩ := node_nat hn
    have hnI : (n : Int) < (f.length : Int) := by omega
    have hn0 : (0 : Int) ≤ (n : Int) := by omega
    rw [hid] at z1
    by_cases ht : isNode f o.to = true
    · rw [if_pos ht] at hE
      obtain ⟨t, hto, htl⟩ := node_nat ht
      have htI : (t : Int) < (f.length : Int) := by omega
      have ht0 : (0 : Int) ≤ (t : Int) := by omega
      rw [hto] at z2
      have hM := may_is hm
      have hlt1 := fun (a : n ≠ 0) (b : f[t].kind ≤ 1) (c : ¬ (t = 0 ∧ f[n].kind = 2)) => lies_true hM hid hto hnl htl a b c
      have hlf := lies_hit hM hid hto hnl htl
      have hlk := lies_kind hM hid hto hnl htl
      have hfits := fits_is hM hid hto hnl htl
      have hins := insG_is hM hid hto hnl htl
      have hpar := hM.par n hnl
      have hkt := hM.kids t htl
      rw [atN htl] at hkt
      rw [atN hnl] at hpar
      have hkl := Work.may_kids hm f[t] (List.getElem_mem _)
      have hkp := fun (p : Nat) (hp : p < f.length) => Work.may_kids hm f[p] (List.getElem_mem _)
      rw [hid, hto] at hE
      obtain ⟨b, q, An, cn, Akn, ckn, hA, hlt, g0, g1, g2, g3, g4, g5, _, _, _, _, _, _, m1, m2, m3, m4⟩ := node_at (Hrd.out W0 HB0.out) hnl
      subst hA
      obtain ⟨W1, hW1⟩ : ∃ W1, W0.alloc (.cells #[.int .i64 f[n].kind, .string f[n].name, .string f[n].text, .slice An f[n].attrs.length cn, .int .i64 f[n].parent, .slice Akn f[n].kids.length ckn] 86) = W1 := ⟨_, rfl⟩
      have hrow1 : W1.heap[W0.heap.size]? = some (.cells (ndRow f[n] (.slice An f[n].attrs.length cn) (.slice Akn f[n].kids.length ckn)) 86 (0, 0)) := by rw [← hW1]; exact World.alloc_heap_new W0 _
      have hb1 : Below W0.heap.size W0 W1 := by rw [← hW1]; exact (Below.refl _ _).alloc (Nat.le_refl _) _
      obtain ⟨b', q', At, ct, Akt, ckt, hA, hlt', e0, e1, e2, e3, e4, e5, _, rkt, _, _, _, lckt, _, _, _, _⟩ := node_at (Hrd.out W1 (bthen HB0.out hb1)) htl
      injection hA with hA
      injection hA with e6 e7 _
      subst e6 e7
      simp only [maxLen] at lckt
      obtain ⟨W2, hW2⟩ : ∃ W2, W1.alloc (.cells #[.int .i64 f[t].kind, .string f[t].name, .string f[t].text, .slice At f[t].attrs.length ct, .int .i64 f[t].parent, .slice Akt f[t].kids.length ckt] 86) = W2 := ⟨_, rfl⟩
      have hrow2 : W2.heap[W1.heap.size]? = some (.cells (ndRow f[t] (.slice At f[t].attrs.length ct) (.slice Akt f[t].kids.length ckt)) 86 (0, 0)) := by rw [← hW2]; exact World.alloc_heap_new W1 _
      have hb12 : Below W1.heap.size W1 W2 := by rw [← hW2]; exact (Below.refl _ _).alloc (Nat.le_refl _) _
      have hb2 : Below W0.heap.size W0 W2 := bthen hb1 hb12
      have hlw0 : W0.heap.size < W1.heap.size := lt_heap hrow1
      have hlw1 : W1.heap.size < W2.heap.size := lt_heap hrow2
      have hrow12 := (hb12.block _ hlw0).trans hrow1
      have hxo := fun w' (hb : Below W2.heap.size W2 w') => Hbox.out w' (bthen hb2 hb)
      have hxn := fun w' (hb : Below W2.heap.size W2 w') => row_cells ((hb.block _ (lt_heap hrow12)).trans hrow12)
      have hxt := fun w' (hb : Below W2.heap.size W2 w') => row_cells ((hb.block _ hlw1).trans hrow2)
      have hrkt := fun w' (hb : Below W2.heap.size W2 w') => (rkt.below (intE_keeps _) (w' := w') (bthen hb12 hb) (Nat.le_refl _)).mono (intE_keeps _) (bthen hb12 hb).size
      have hrf := fun w' (hb : Below W2.heap.size W2 w') => Hrd.out w' (bthen HB0.out (bthen hb2 hb))
      rw [hid, hto] at hxo
      obtain ⟨p0, p1, p2, p3, p4, p5, pf⟩ := Hbox.out W1 hb1
      rw [hid] at p1
      rw [hto] at p2
      obtain ⟨v0, v1, v2, v3, v4, v5, vf⟩ := hxo W2 (Below.refl _ _)
      obtain ⟨n0, n1, n2, n3, n4, n5, nf⟩ := hxn W2 (Below.refl _ _)
      obtain ⟨t0, t1, t2, t3, t4, t5, tf⟩ := hxt W2 (Below.refl _ _)
      have HW1 := Lib.hid hW1; have HW2 := Lib.hid hW2; have HB2 := Lib.hid hb2; have Hxo := Lib.hid hxo; have Hxn := Lib.hid hxn; have Hxt := Lib.hid hxt; have Hrkt := Lib.hid hrkt; have Hrf := Lib.hid hrf; have Hkt := Lib.hid hkt; have Hins := Lib.hid hins; have Hlt := Lib.hid hlt1; have Hlf := Lib.hid hlf; have Hfits := Lib.hid hfits; have Hpar := Lib.hid hpar; have HE0 := Lib.hid hE; have Hkp := Lib.hid hkp; have Hid' := Lib.hid hid; have Hto' := Lib.hid hto
      have hs1 : w.heap.size + 2 ≤ W1.heap.size := by have := Hs0.out; omega
      have Hs1 := Lib.hid hs1; have Hlw := Lib.hid hlw1
      clear hW1 hW2 hb1 hb12 hb2 hxo hxn hxt hrkt hrf hkt hins hlt1 hlf hfits hpar hkp hid hto hrow1 hrow2 hrow12 rkt hM hm hmo hn ht hs1 hlw0 hlw1 hlt hlt' m1 m2 m3 m4 hE
      by_cases hn0' : n = 0
      · have hF := HE0.out
        rw [hlk (.inl hn0'), if_neg (by decide)] at hF
        have hE := hF
        have hq : ((n : Int) == 0) = true := by rw [beq_iff_eq]; omega
        have hF := Herr.out 71 hE (by decide)
        have HE := Lib.hid hE; have HF := Lib.hid hF
        clear hE hF hlk hn0'
        go_enter Tryz.func63, Tryz.ntmps63
        go_upto_region 1 with fail
        rw [HW0.out]
        go_upto_region 4 with fail
        rw [HW1.out]
        go_upto_region 5 with fail
        rw [HW2.out]
        go_wp2_with fail
        go_ret2
        exact ⟨_, by rw [HE.out]; rfl, by rw [HF.out]; exact Hrd.out _ (bthen HB0.out HB2.out), bthen HB0.out HB2.out⟩
      by_cases hk1 : f[t].kind ≤ 1
      · by_cases hc : t = 0 ∧ f[n].kind = 2
        · have hE := HE0.out
          rw [hlk (.inr (.inr hc)), if_neg (by decide)] at hE
          have hF := Herr.out 71 hE (by decide)
          have HE := Lib.hid hE; have HF := Lib.hid hF
          have hq : ((n : Int) == 0) = false := by rw [beq_eq_false_iff_ne]; omega
          have hq1 : ((t : Int) == 0) = true := by rw [beq_iff_eq]; omega
          have hq2 : (f[n].kind == 2) = true := by rw [beq_iff_eq]; exact hc.2
          have hq3 : ¬ 1 < f[t].kind := by omega
          clear hE hF hlk hc hn0' hk1
          go_enter Tryz.func63, Tryz.ntmps63
          go_upto_region 1 with fail
          rw [HW0.out]
          go_upto_region 4 with fail
          rw [HW1.out]
          go_upto_region 5 with fail
          rw [HW2.out]
          go_wp2_with fail
          go_ret2
          exact ⟨_, by rw [HE.out]; rfl, by rw [HF.out]; exact Hrd.out _ (bthen HB0.out HB2.out), bthen HB0.out HB2.out⟩
        · replace Hlt := Lib.hid (Hlt.out hn0' hk1 hc)
          have hq : ((n : Int) == 0) = false := by rw [beq_eq_false_iff_ne]; omega
          have hq3 : ¬ 1 < f[t].kind := by omega
          clear hlk hn0' hk1
          go_enter Tryz.func63, Tryz.ntmps63
          go_upto_region 1 with fail
          rw [HW0.out]
          go_upto_region 4 with fail
          rw [HW1.out]
          go_upto_region 5 with fail
          rw [HW2.out]
          clear p0 p1 p2 p3 p4 p5 pf e0 e1 e2 e3 e4 e5 g0 g1 g2 g3 g4 g5 z0 z1 z2 z3 z4 z5 zf
          go_cut [61] (fun u wy => u = .bool false ∧ wy = W2)
          case first =>
            by_cases h0 : t = 0
            · have hq1 : ((t : Int) == 0) = true := by rw [beq_iff_eq]; omega
              have hq2 : (f[n].kind == 2) = false := by rw [beq_eq_false_iff_ne]; exact fun e => hc ⟨h0, e⟩
              clear hc h0
              go_wp2_with fail
              go_meet
              exact ⟨rfl, rfl⟩
            · have hq1 : ((t : Int) == 0) = false := by rw [beq_eq_false_iff_ne]; omega
              clear hc h0
              go_wp2_with fail
              go_meet
              exact ⟨rfl, rfl⟩
          case rest =>
            obtain ⟨rfl, hwy⟩ := hcut
            have hwy' := hwy.symm
            subst hwy'
            clear hc hq hq3
            go_wp2_with fail
            go_loopw [8] (fun i wr => ∃ j : Nat, j ≤ f[t].kids.length ∧ i = .int .i64 j ∧ Hid (∀ m (hm : m < f[t].kids.length), m < j → (decide (t = 0) && decide (f[n].kind = 1) && (f[t].kids[m] != (n : Int) && (at_ f f[t].kids[m]).kind == 1)) = false) ∧ Below W2.heap.size W2 wr) (fun i _ => f[t].kids.length - (intOf i).toNat)
            case atStart => exact ⟨0, Nat.zero_le _, rfl, Lib.hid (fun m _ h => absurd h (Nat.not_lt_zero _)), Below.refl _ _⟩
            case round =>
              obtain ⟨j, hj, rfl, hno, hb⟩ := hrel
              clear v0 v1 v2 v3 v4 v5 vf n0 n1 n2 n3 n4 n5 nf t0 t1 t2 t3 t4 t5 tf
              obtain ⟨v0, v1, v2, v3, v4, v5, vf⟩ := Hxo.out wr hb
              obtain ⟨n0, n1, n2, n3, n4, n5, nf⟩ := Hxn.out wr hb
              obtain ⟨t0, t1, t2, t3, t4, t5, tf⟩ := Hxt.out wr hb
              by_cases hlt : j < f[t].kids.length
              · obtain ⟨bk, ok, rfl, hbk, q0, _⟩ := intE_at (Hrkt.out wr hb) hlt
                obtain ⟨hk1, _⟩ := Hkt.out f[t].kids[j] (List.getElem_mem _)
                obtain ⟨r, hr, hrl⟩ := node_nat hk1
                obtain ⟨b2, o2, _, _, _, _, hA2, _, y0, _⟩ := node_at (Hrf.out wr hb) hrl
                injection hA2 with hA2
                injection hA2 with e1 e2 _
                subst e1 e2
                rw [hr] at q0
                have hrI : (r : Int) < (f.length : Int) := by omega
                have hr0 : (0 : Int) ≤ (r : Int) := by omega
                have hst : ∀ X : Bool, (decide (t = 0) && decide (f[n].kind = 1) && (f[t].kids[j] != (n : Int) && (at_ f f[t].kids[j]).kind == 1)) = X → X = false → ∀ m (hm : m < f[t].kids.length), m < j + 1 → (decide (t = 0) && decide (f[n].kind = 1) && (f[t].kids[m] != (n : Int) && (at_ f f[t].kids[m]).kind == 1)) = false := fun X hX hx m hm hmj => by
                  by_cases e : m = j
                  · subst e; rw [hX, hx]
                  · exact hno.out m hm (by omega)
                rw [hr, atN hrl] at hst
                have Hst := Lib.hid hst; have Hb := Lib.hid hb; have Hr := Lib.hid hr
                clear hst hb hr hk1
                by_cases h0 : t = 0
                · have hq1 : ((t : Int) == 0) = true := by rw [beq_iff_eq]; omega
                  by_cases hk : f[n].kind = 1
                  · have hq2 : (f[n].kind == 1) = true := by rw [beq_iff_eq]; exact hk
                    by_cases hrn : r = n
                    · have hq4 : ((r : Int) != (n : Int)) = false := by rw [bne_eq_false_iff_eq, hrn]
                      have HN := Lib.hid (Hst.out false (by rw [hq4]; simp) rfl)
                      clear Hst h0 hk hrn
                      go_wp2_with fail
                      go_region
                      all_goals go_wp2_with fail
                      all_goals
                        go_roundw
                        case rel => exact ⟨j + 1, by omega, by go_num, HN, by first | exact Hb.out | exact Hb.out.drew⟩
                        case measure => simp [intOf]; omega
                    · have hq4 : ((r : Int) != (n : Int)) = true := by rw [bne_iff_ne]; omega
                      by_cases hk5 : f[r].kind = 1
                      · have hq5 : (f[r].kind == 1) = true := by rw [beq_iff_eq]; exact hk5
                        have hE := HE0.out
                        rw [Hlf.out h0 hk j hlt (by rw [Hr.out, hq4]) (by rw [Hr.out, atN hrl, hq5]), if_neg (by decide)] at hE
                        have hF := Herr.out 71 hE (by decide)
                        have HE := Lib.hid hE; have HF := Lib.hid hF
                        clear Hst h0 hk hrn hE hF hk5
                        go_wp2_with fail
                        go_region
                        all_goals go_wp2_with fail
                        all_goals
                          go_ret2
                          first | exact ⟨_, by rw [HE.out]; rfl, by rw [HF.out]; exact Hrf.out _ Hb.out, bthen HB0.out (bthen HB2.out Hb.out)⟩ | exact ⟨_, by rw [HE.out]; rfl, by rw [HF.out]; exact Hrf.out _ Hb.out.drew, bthen HB0.out (bthen HB2.out Hb.out.drew)⟩
                      · have hq5 : (f[r].kind == 1) = false := by rw [beq_eq_false_iff_ne]; exact hk5
                        have HN := Lib.hid (Hst.out false (by rw [hq5]; simp) rfl)
                        clear Hst h0 hk hrn hk5
                        go_wp2_with fail
                        go_region
                        all_goals go_wp2_with fail
                        all_goals
                          go_roundw
                          case rel => exact ⟨j + 1, by omega, by go_num, HN, by first | exact Hb.out | exact Hb.out.drew⟩
                          case measure => simp [intOf]; omega
                  · have hq2 : (f[n].kind == 1) = false := by rw [beq_eq_false_iff_ne]; exact hk
                    have HN := Lib.hid (Hst.out false (by simp [hk]) rfl)
                    clear Hst h0 hk
                    go_wp2_with fail
                    go_region
                    all_goals go_wp2_with fail
                    all_goals
                      go_roundw
                      case rel => exact ⟨j + 1, by omega, by go_num, HN, by first | exact Hb.out | exact Hb.out.drew⟩
                      case measure => simp [intOf]; omega
                · have hq1 : ((t : Int) == 0) = false := by rw [beq_eq_false_iff_ne]; omega
                  have HN := Lib.hid (Hst.out false (by simp [h0]) rfl)
                  clear Hst h0
                  go_wp2_with fail
                  go_region
                  all_goals go_wp2_with fail
                  all_goals
                    go_roundw
                    case rel => exact ⟨j + 1, by omega, by go_num, HN, by first | exact Hb.out | exact Hb.out.drew⟩
                    case measure => simp [intOf]; omega
              · obtain rfl : j = f[t].kids.length := by omega
                have hl : liesB f o = true := Hlt.out (fun m hm => hno.out m hm hm)
                have hE := HE0.out
                rw [if_pos hl] at hE
                have hbc := Hbl.out wr (bthen HB0.out (bthen HB2.out hb)) (n : Int) (t : Int)
                have Hb := Lib.hid hb
                clear hl hno hb hlt hj
                cases hbb : belowB f (n : Int) (t : Int) with
                | true =>
                  rw [hbb] at hE hbc
                  rw [if_neg (by decide)] at hE
                  have hF := Herr.out 72 hE (by decide)
                  have HE := Lib.hid hE; have HF := Lib.hid hF; have Hbc := Lib.hid hbc
                  clear hE hF hbc hbb
                  go_wp2_with (go_at_call 134; (with_reducible refine (Hbc.out).mono ?_); rintro e w3 ⟨rfl, hb3⟩; have Hb3 := Lib.hid (bthen Hb.out hb3); clear hb3)
                  go_ret2
                  exact ⟨_, by rw [HE.out]; rfl, by rw [HF.out]; exact Hrf.out _ Hb3.out, bthen HB0.out (bthen HB2.out Hb3.out)⟩
                | false =>
                  rw [hbb] at hE hbc
                  rw [if_pos (by decide), Hfits.out] at hE
                  have hwo := fun w' (hb' : Below W2.heap.size W2 w') => without_calls w' _ f[t].kids (n : Int) (Hrkt.out w' hb') (by omega)
                  have HE := Lib.hid hE; have Hbc := Lib.hid hbc; have Hwo := Lib.hid hwo
                  clear hE hbc hbb hwo
                  go_upto_region 14 with (go_at_call 134; (with_reducible refine (Hbc.out).mono ?_); rintro e w3 ⟨rfl, hb3⟩; have Hb3 := Lib.hid (bthen Hb.out hb3); clear hb3)
                  clear Hbc v0 v1 v2 v3 v4 v5 vf n0 n1 n2 n3 n4 n5 nf t0 t1 t2 t3 t4 t5 tf
                  obtain ⟨v0, v1, v2, v3, v4, v5, vf⟩ := Hxo.out w3 Hb3.out
                  obtain ⟨t0, t1, t2, t3, t4, t5, tf⟩ := Hxt.out w3 Hb3.out
                  go_upto_region 15 with (go_at_call 135; (with_reducible refine (Hwo.out _ Hb3.out).mono ?_); rintro e w4 ⟨u4, rfl, ho4, hb4⟩; obtain ⟨A4, c4, rfl⟩ := LShown.slice_of ho4; have Ho4 := Lib.hid ho4; have Hb4 := Lib.hid (bthen Hb3.out hb4); clear ho4 hb4)
                  clear v0 v1 v2 v3 v4 v5 vf t0 t1 t2 t3 t4 t5 tf Hwo
                  obtain ⟨v0, v1, v2, v3, v4, v5, vf⟩ := Hxo.out w4 Hb4.out
                  have hll : (f[t].kids.filter (· != (n : Int))).length ≤ 60 := Nat.le_trans (List.length_filter_le _ _) hkl
                  obtain ⟨L, hL⟩ : ∃ L, L = f[t].kids.filter (· != (n : Int)) := ⟨_, rfl⟩
                  rw [← hL] at HE Ho4 hll ⊢
                  have HL := Lib.hid hL
                  clear hL
                  obtain ⟨a, ha⟩ : ∃ a, a = o.at_ := ⟨_, rfl⟩
                  rw [← ha] at HE v3
                  have Ha := Lib.hid ha
                  clear ha
                  by_cases hf : 0 ≤ a ∧ a ≤ (L.length : Int)
                  · have hE := HE.out
                    rw [decide_eq_true hf, if_pos rfl] at hE
                    have hF := Hdo.out hE
                    obtain ⟨k, rfl⟩ : ∃ k : Nat, a = k := ⟨a.toNat, by omega⟩
                    have hkL : k ≤ L.length := by omega
                    have hq1 : ¬ (k : Int) < 0 := by omega
                    have hq2 : ¬ (L.length : Int) < (k : Int) := by omega
                    have hkt : o.at_.toNat = k := by rw [← Ha.out]; exact Int.toNat_natCast k
                    have HE2 := Lib.hid hE; have HF := Lib.hid hF; have Hkt2 := Lib.hid hkt
                    clear hE hF HE hf hkt Herr Hdo Hlf Hlt HE0 Hfits
                    go_upto_region 18 with (go_at_call 132; (with_reducible refine (Hcp.out _ (bthen HB0.out (bthen HB2.out Hb4.out))).mono ?_); rintro e w5 ⟨u5, rfl, ho5, hb5⟩; have Ho5 := Lib.hid ho5; have HB5 := Lib.hid hb5; have Hb5 := Lib.hid (bthen Hb4.out hb5); clear ho5 hb5)
                    obtain ⟨g, c5, rfl, hg1, hg2, hgf, hg3, hg4⟩ := Ho5.out.form (by omega)
                    simp only [maxLen] at hg4
                    clear v0 v1 v2 v3 v4 v5 vf
                    obtain ⟨v0, v1, v2, v3, v4, v5, vf⟩ := Hxo.out w5 Hb5.out
                    obtain ⟨n0, n1, n2, n3, n4, n5, nf⟩ := Hxn.out w5 Hb5.out
                    obtain ⟨P, hP⟩ : ∃ P, P = f[n].parent := ⟨_, rfl⟩
                    have hpar := Hpar.out
                    rw [← hP] at n4 hpar
                    have HP := Lib.hid hP; have HPar := Lib.hid hpar; have Hgf := Lib.hid hgf
                    clear hP hgf hpar Hpar
                    have hgw : W2.heap.size ≤ g := by have := Hb4.out.size; omega
                    have hlw := Hlw.out
                    have hs1' := Hs1.out
                    have hs0' := Hs0.out
                    have hbg1 : w.heap.size ≠ g := by omega
                    have hbg2 : W0.heap.size ≠ g := by omega
                    clear hs0' hs1' hlw
                    go_upto_if 128 with fail
                    go_cut [] from 126 (fun wy => ∃ F1 : Fo, F1.length = f.length ∧ Hid (insG f n t k F1 = insertF f o) ∧ Hid (OwnF 86 w4.heap.size wy (.slice (some ⟨g, 0, none⟩) f.length c5) F1) ∧ Hid (Below w4.heap.size w4 wy))
                    case first =>
                      by_cases hp : 0 ≤ P
                      · obtain ⟨p, rfl⟩ : ∃ p : Nat, P = p := ⟨P.toNat, by omega⟩
                        have hpl : p < f.length := by have := HPar.out.2.1; omega
                        have hpI : (p : Int) < (f.length : Int) := by omega
                        obtain ⟨cs, va, vk, hcs, hcc, _, rk⟩ := Ho5.out.ne_block hpl
                        have k5 := hcc 5 vk (by rw [hcs]; rfl)
                        obtain ⟨Ak, ck, rfl, hck1, hck2⟩ := rk.form
                        simp only [maxLen] at hck2
                        have hpk := Hkp.out p hpl
                        have hwo := fun w' (hb' : Below w5.heap.size w5 w') => without_calls w' _ f[p].kids (n : Int) ((RdL.below (intE_keeps _) (w' := w') rk.rd hb' (Nat.le_refl _)).mono (intE_keeps _) hb'.size) (by omega)
                        have hkeep := fun w' (hb' : Below w5.heap.size w5 w') => (⟨(Hxo.out w' (bthen Hb5.out hb')).2.1, (cell_grow hb' n4), cell_grow hb' k5⟩ : w'.cell? ⟨w.heap.size, 1, none⟩ = some (.int .i64 (n : Int)) ∧ w'.cell? ⟨W0.heap.size, 4, none⟩ = some (.int .i64 (p : Int)) ∧ w'.cell? ⟨g, p * 6 + 5, none⟩ = some (.slice Ak f[p].kids.length ck))
                        have hff : ∀ w', Below w5.heap.size w5 w' → w'.frozen? ⟨g, p * 6 + 5, none⟩ = false := fun w' hb' => by
                          obtain ⟨g2, c2, e2, _, _, hf2, _⟩ := (Ho5.out.below hb').form (by omega)
                          injection e2 with e2
                          injection e2 with e2
                          injection e2 with e2
                          subst e2
                          exact hf2 _
                        have Hwo := Lib.hid hwo; have Rk := Lib.hid rk; have Hkeep := Lib.hid hkeep; have Hff := Lib.hid hff
                        have k5d := (hkeep w5.drew (Below.refl _ _).drew).2.2
                        have kf5d := hff w5.drew (Below.refl _ _).drew
                        have z1d := (hkeep w5.drew (Below.refl _ _).drew).1
                        clear hwo rk hkeep hff hcs hcc k5 v0 v2 v3 v4 v5 vf n0 n1 n2 n3 n5 nf
                        go_upto_region 19 with fail
                        refine wp_region_held_drew (S := (fun w' => w'.cell? ⟨w.heap.size, 1, none⟩ = some (.int .i64 (n : Int)) ∧ w'.cell? ⟨W0.heap.size, 4, none⟩ = some (.int .i64 (p : Int)))) (by kernel_rfl) ⟨v1, n4⟩ (fun hHeld => ?_)
                        refine' wpAnyH_take (i := 0) (v := ?v0) rfl (by kernel_rfl) (by kernel_rfl) (by kernel_rfl) (fun _ _ _ h => h) (Or.inl ⟨by rfl, ?hy0⟩) (by assumption) ?rest0
                        case hy0 => (intro w hSw; (try dsimp only at hSw); go_simp; (try with_reducible rfl))
                        (try simp only [Act.put, List.setIfInBounds_toArray, List.set_cons_zero, List.set_cons_succ])
                        refine' wpAnyH_take (i := 1) (v := ?v1) rfl (by kernel_rfl) (by kernel_rfl) (by kernel_rfl) (fun _ _ _ h => h) (Or.inl ⟨by rfl, ?hy1⟩) (by assumption) ?rest1
                        case hy1 => (intro w hSw; (try dsimp only at hSw); go_simp; (try with_reducible rfl))
                        (try simp only [Act.put, List.setIfInBounds_toArray, List.set_cons_zero, List.set_cons_succ])
                        refine' wpAnyH_take (i := 2) (v := ?v2) rfl (by kernel_rfl) (by kernel_rfl) (by kernel_rfl) (fun _ _ _ h => h) (Or.inl ⟨by rfl, ?hy2⟩) (by assumption) ?rest2
                        case hy2 => (intro w hSw; (try dsimp only at hSw); go_simp; (try with_reducible rfl))
                        (try simp only [Act.put, List.setIfInBounds_toArray, List.set_cons_zero, List.set_cons_succ])
                        refine' wpAnyH_take (i := 3) (v := ?v3) rfl (by kernel_rfl) (by kernel_rfl) (by kernel_rfl) (fun _ _ _ h => h) (Or.inl ⟨by rfl, ?hy3⟩) (by assumption) ?rest3
                        case hy3 => (intro w hSw; (try dsimp only at hSw); go_simp; (try with_reducible rfl))
                        (try simp only [Act.put, List.setIfInBounds_toArray, List.set_cons_zero, List.set_cons_succ])
                        refine' wpAnyH_take (i := 4) (v := ?v4) rfl (by kernel_rfl) (by kernel_rfl) (by kernel_rfl) (fun _ _ _ h => h) (Or.inl ⟨by rfl, ?hy4⟩) (by assumption) ?rest4
                        case hy4 => (intro w hSw; (try dsimp only at hSw); go_simp; (try with_reducible rfl))
                        (try simp only [Act.put, List.setIfInBounds_toArray, List.set_cons_zero, List.set_cons_succ])
                        refine' wpAnyH_take (i := 5) (v := ?v5) rfl (by kernel_rfl) (by kernel_rfl) (by kernel_rfl) (fun _ _ _ h => h) (Or.inl ⟨by rfl, ?hy5⟩) (by assumption) ?rest5
                        case hy5 => (intro w hSw; (try dsimp only at hSw); go_simp; (try with_reducible rfl))
                        (try simp only [Act.put, List.setIfInBounds_toArray, List.set_cons_zero, List.set_cons_succ])
                        refine' wpAnyH_take (i := 6) (v := ?v6) rfl (by kernel_rfl) (by kernel_rfl) (by kernel_rfl) (fun _ _ _ h => h) (Or.inl ⟨by rfl, ?hy6⟩) (by assumption) ?rest6
                        case hy6 => (intro w hSw; (try dsimp only at hSw); go_simp; (try with_reducible rfl))
                        (try simp only [Act.put, List.setIfInBounds_toArray, List.set_cons_zero, List.set_cons_succ])
                        refine' wpAnyH_take (i := 7) (v := ?v7) rfl (by kernel_rfl) (by kernel_rfl) (by kernel_rfl) (fun _ _ _ h => h) (Or.inl ⟨by rfl, ?hy7⟩) (by assumption) ?rest7
                        case hy7 => (intro w hSw; (try dsimp only at hSw); go_simp; (try with_reducible rfl))
                        (try simp only [Act.put, List.setIfInBounds_toArray, List.set_cons_zero, List.set_cons_succ])
                        refine' wpAnyH_take (i := 9) (v := ?v9) rfl (by kernel_rfl) (by kernel_rfl) (by kernel_rfl) (fun _ _ _ h => h) (Or.inl ⟨by rfl, ?hy9⟩) (by assumption) ?rest9
                        case hy9 => (intro w hSw; (try dsimp only at hSw); go_simp; (try with_reducible rfl))
                        (try simp only [Act.put, List.setIfInBounds_toArray, List.set_cons_zero, List.set_cons_succ])
                        refine' wpAnyH_take (i := 10) (v := ?v10) rfl (by kernel_rfl) (by kernel_rfl) (by kernel_rfl) (fun _ _ _ h => h) (Or.inl ⟨by rfl, ?hy10⟩) (by assumption) ?rest10
                        case hy10 => (intro w hSw; (try dsimp only at hSw); go_simp; (try with_reducible rfl))
                        (try simp only [Act.put, List.setIfInBounds_toArray, List.set_cons_zero, List.set_cons_succ])
                        refine wpAnyH_ready (rs := [8]) (by kernel_rfl) (by simp) ?_
                        refine AllReadyH.cons rfl (fun K hK => ?_) AllReadyH.nil
                        go_simp
                        refine hK.out _ _ hHeld (fun hHeld => ?_)
                        clear hK K
                        (try simp only [Act.put, List.setIfInBounds_toArray, List.set_cons_zero, List.set_cons_succ])
                        refine wpAnyH_ready (rs := [11]) (by kernel_rfl) (by simp) ?_
                        refine AllReadyH.cons rfl (fun K hK => ?_) AllReadyH.nil
                        go_simp
                        go_at_call 135
                        refine (Hwo.out _ (Below.refl _ _).drew).mono ?_
                        rintro e w7 ⟨u7, rfl, ho7, hb7⟩
                        obtain ⟨A7, n7, c7, rfl⟩ := Build.own_form ho7
                        have hb7' := (Below.refl _ w5).drew.trans hb7
                        have y7 := Hkeep.out w7 hb7'
                        have yf7 := Hff.out w7 hb7'
                        have y75 := y7.2.2
                        have Ho7 := Lib.hid ho7; have Hb7 := Lib.hid hb7'
                        clear ho7 hb7 hb7'
                        go_simp
                        refine hK.out _ _ ⟨y7.1, y7.2.1⟩ (fun hHeld => ?_)
                        clear hK K
                        (try simp only [Act.put, List.setIfInBounds_toArray, List.set_cons_zero, List.set_cons_succ])
                        refine' wpAnyH_take (i := 12) (v := ?v12) rfl (by kernel_rfl) (by kernel_rfl) (by kernel_rfl) (fun _ _ _ h => h) (Or.inl ⟨by rfl, ?hy12⟩) (by assumption) ?rest12
                        case hy12 => (intro w hSw; (try dsimp only at hSw); go_simp; (try with_reducible rfl))
                        (try simp only [Act.put, List.setIfInBounds_toArray, List.set_cons_zero, List.set_cons_succ])
                        refine' wpAnyH_take (i := 13) (v := ?v13) rfl (by kernel_rfl) (by kernel_rfl) (by kernel_rfl) (fun _ _ _ h => h) (Or.inl ⟨by rfl, ?hy13⟩) (by assumption) ?rest13
                        case hy13 => (intro w hSw; (try dsimp only at hSw); go_simp; (try with_reducible rfl))
                        (try simp only [Act.put, List.setIfInBounds_toArray, List.set_cons_zero, List.set_cons_succ])
                        refine wpAnyH_ready (rs := [14]) (by kernel_rfl) (by simp) ?_
                        refine AllReadyH.cons rfl (fun K hK => ?_) AllReadyH.nil
                        go_simp
                        refine hK.out _ _ ⟨(OwnF.cell_same (Below.heap_setCell _ _ _ _ hbg1) _).trans y7.1, (OwnF.cell_same (Below.heap_setCell _ _ _ _ hbg2) _).trans y7.2.1⟩ (fun hHeld => ?_)
                        clear hK K
                        (try simp only [Act.put, List.setIfInBounds_toArray, List.set_cons_zero, List.set_cons_succ])
                        refine wpAnyH_done (by kernel_rfl) ?_ _
                        go_wp2_with fail
                        go_meet
                        have hO7 := Ho5.out.below Hb7.out
                        have hwf := kids_wf' Rk.out.rd
                        have hr7 : RdS intS 1 (fun b => b ≠ g) w7 (.slice A7 n7 c7) (f[p].kids.filter (· != (n : Int))) := RdS.of_own Ho7.out rfl (fun g' hg' => by have h1 := (Ho7.out.lt g' hg').1; have h2 : w5.heap.size ≤ g' := h1; show g' ≠ g; omega) (fun i hi => ⟨by rw [Nat.mul_one, List.drop_eq_getElem_cons (by simpa using hi)]; simp, hwf _ (List.mem_filter.1 (List.getElem_mem hi)).1⟩)
                        have hst5 := hO7.store (j := 5) (u := .slice A7 n7 c7) (n := { f[p] with kids := f[p].kids.filter (· != (n : Int)) }) hpl (by decide) (fun cs hcs => by
                          obtain ⟨va, vk, rfl, r1, r2, r3, r4, r5, r6⟩ := hcs
                          exact ⟨va, _, rfl, r1, hr7, r3, r4, r5, r6⟩)
                        have hi := Hins.out (f.set p { at_ f (p : Int) with kids := (at_ f (p : Int)).kids.filter (· != (n : Int)) }) (.inr ⟨p, by rw [atN hnl]; exact HP.out.symm, hpl, rfl⟩)
                        rw [Hkt2.out, atN hpl] at hi
                        exact ⟨_, by rw [List.length_set], Lib.hid hi, Lib.hid hst5, Lib.hid ((bthen HB5.out Hb7.out).setCell (show w4.heap.size ≤ g by omega) _)⟩
                      · have hi := Hins.out f (.inl ⟨by rw [atN hnl, ← HP.out]; omega, rfl⟩)
                        rw [Hkt2.out] at hi
                        have Hi := Lib.hid hi
                        have hp' : P < 0 := by omega
                        clear hi hp
                        go_wp2_with fail
                        go_meet
                        exact ⟨f, rfl, Hi, Ho5, HB5⟩
                    case rest =>
                      obtain ⟨F1, hl1, hF1, hO1, hb6⟩ := hcut
                      clear v0 v1 v2 v3 v4 v5 vf n0 n1 n2 n3 n4 n5 nf Hkp HPar HP Ho5 HB5 Hb5 Hgf hg1 hg2
                      obtain ⟨v0, v1, v2, v3, v4, v5, vf⟩ := Hxo.out wc (bthen Hb4.out hb6.out)
                      have hwft : (Lit.int .i64 (t : Int)).wf = true := FTops.wf_i64 (by omega) (by omega)
                      have hn1 : n < F1.length := by omega
                      have ht1 : t < F1.length := by omega
                      have hO := hO1.out
                      rw [show f.length = F1.length from hl1.symm] at hO
                      obtain ⟨cs, va, vk, hcs, hcc, _, _⟩ := hO.ne_block hn1
                      have k4 := hcc 4 (.int .i64 F1[n].parent) (by rw [hcs]; rfl)
                      obtain ⟨g2, c2, e2, _, hglt, hf2, _⟩ := hO.form (by omega)
                      injection e2 with e2 _ e3
                      injection e2 with e2
                      injection e2 with e2
                      subst e2 e3
                      have kf4 := hf2 (n * 6 + 4)
                      have hst4 := hO.store (j := 4) (u := .int .i64 (t : Int)) (n := { F1[n] with parent := (t : Int) }) hn1 (by decide) (fun cs hcs => by
                        obtain ⟨va, vk, rfl, r1, r2, r3, r4, r5, r6⟩ := hcs
                        exact ⟨va, vk, rfl, r1, r2, r3, r4, r5, hwft⟩)
                      have Hst4 := Lib.hid hst4; have Hl1 := Lib.hid hl1
                      clear hO hO1 hst4 hcs hcc hf2 hl1
                      go_upto_region 21 with fail
                      obtain ⟨W7, hW7⟩ : ∃ W7, wc.setCell ⟨g, n * 6 + 4, none⟩ (.int .i64 (t : Int)) = W7 := ⟨_, rfl⟩
                      have hst4 := Hst4.out
                      rw [hW7] at hst4 ⊢
                      have hb7 : Below w4.heap.size w4 W7 := by rw [← hW7]; exact hb6.out.setCell (show w4.heap.size ≤ g by omega) _
                      obtain ⟨F2, hF2⟩ : ∃ F2, F2 = F1.set n { F1[n] with parent := (t : Int) } := ⟨_, rfl⟩
                      have hl2 : F2.length = F1.length := by rw [hF2, List.length_set]
                      rw [← hF2] at hst4
                      rw [show F1.length = F2.length from hl2.symm] at hst4
                      have ht2 : t < F2.length := by omega
                      have hfin : ∀ (w' : World) (u : Value) (X : List Int), Below W7.heap.size W7 w' → RdS intS 1 (fun b => b ≠ g) w' u X → X = insertL L k (n : Int) → RefPost f o w (.returned (.tuple #[.slice (some ⟨g, 0, none⟩) f.length c5, .int .i64 0])) (w'.setCell ⟨g, t * 6 + 5, none⟩ u) := fun w' u X hb' hr hX => by
                        have hs := (hst4.below hb').store (j := 5) (u := u) (n := { F2[t] with kids := X }) ht2 (by decide) (fun cs hcs => by
                          obtain ⟨va, vk, rfl, r1, r2, r3, r4, r5, r6⟩ := hcs
                          exact ⟨va, _, rfl, r1, hr, r3, r4, r5, r6⟩)
                        have hin : F2.set t { F2[t] with kids := X } = insertF f o := by
                          rw [← hF1.out]
                          unfold insG
                          simp only
                          rw [atN hn1, ← hF2, atN ht2, hX, HL.out, atN htl]
                        rw [hin, hl2, Hl1.out] at hs
                        refine ⟨_, by rw [HE2.out], by rw [HF.out]; exact hs.rd, ?_⟩
                        exact (bthen HB0.out (bthen HB2.out (bthen Hb4.out (bthen hb7 hb')))).setCell (show w.heap.size ≤ g by have := HB0.out.size; have := HB2.out.size; omega) _
                      have hkeep : ∀ w', Below W7.heap.size W7 w' → (w'.cell? ⟨w.heap.size, 1, none⟩ = some (.int .i64 (n : Int)) ∧ w'.cell? ⟨w.heap.size, 2, none⟩ = some (.int .i64 (t : Int)) ∧ w'.cell? ⟨w.heap.size, 3, none⟩ = some (.int .i64 (k : Int))) ∧ (∃ u, w'.cell? ⟨g, t * 6 + 5, none⟩ = some u) ∧ w'.frozen? ⟨g, t * 6 + 5, none⟩ = false := fun w' hb' => by
                        have h1 := Hxo.out w' (bthen Hb4.out (bthen hb7 hb'))
                        rw [← Ha.out] at h1
                        obtain ⟨cs, va, vk, hcs, hcc, _, _⟩ := (hst4.below hb').ne_block ht2
                        obtain ⟨g2, c2, e2, _, _, hf2, _⟩ := (hst4.below hb').form (by omega)
                        injection e2 with e2
                        injection e2 with e2
                        injection e2 with e2
                        subst e2
                        exact ⟨⟨h1.2.1, h1.2.2.1, h1.2.2.2.1⟩, ⟨_, hcc 5 vk (by rw [hcs]; rfl)⟩, hf2 _⟩
                      have hL7 : W7.ownsRow w3.heap.size 3 1 (.slice A4 L.length c4) L.length (L.map (Value.int .i64)) := own_keep Ho4.out (fun g' hg' => hb7.block g' (Ho4.out.lt g' hg').2)
                      have hwfL : ∀ y ∈ L, (Lit.int .i64 y).wf = true := fun y hy => by
                        rw [HL.out] at hy
                        exact kids_wf' (Hrkt.out wc (bthen Hb4.out hb6.out)) y (List.mem_filter.1 hy).1
                      have hwfn : (Lit.int .i64 (n : Int)).wf = true := FTops.wf_i64 (by omega) (by omega)
                      have Hfin := Lib.hid hfin; have Hkeep := Lib.hid hkeep; have HL7 := Lib.hid hL7; have HwfL := Lib.hid hwfL; have Hwfn := Lib.hid hwfn; have HF2 := Lib.hid hF2; have Hg7 := Lib.hid (hst4.form (by omega))
                      obtain ⟨⟨v1', v2', v3'⟩, _, _⟩ := hkeep W7.drew (Below.refl _ _).drew
                      obtain ⟨i0, hi0, hz0, hz1, hz2⟩ := info_parts info_int
                      have hgW7 : g < W7.heap.size := by rw [← hW7]; simpa using hglt
                      clear hfin hkeep hL7 hwfL hwfn hF2 hst4 hW7 k4 kf4 v0 v1 v2 v3 v4 v5 vf Hst4 hb6 hF1 Hl1
                      rcases HL7.out.2 with ⟨hv, h0⟩ | ⟨g4, cap, cur, hv, _, _, hc1, hc2, _, _⟩
                      · injection hv with e1 e2 e3
                        subst e1 e3
                        have hk0 : k = 0 := by omega
                        subst hk0
                        refine wp_region_held_drew (S := (fun w' => w'.cell? ⟨w.heap.size, 1, none⟩ = some (.int .i64 (n : Int)) ∧ w'.cell? ⟨w.heap.size, 2, none⟩ = some (.int .i64 (t : Int)) ∧ w'.cell? ⟨w.heap.size, 3, none⟩ = some (.int .i64 ((0 : Nat) : Int)))) (by kernel_rfl) ⟨v1', v2', v3'⟩ (fun hHeld => ?_)
                        refine' wpAnyH_take (i := 0) (v := ?va0) rfl (by kernel_rfl) (by kernel_rfl) (by kernel_rfl) (fun _ _ _ h => h) (Or.inl ⟨by rfl, ?hya0⟩) (by assumption) ?resta0
                        case hya0 => (intro w hSw; (try dsimp only at hSw); go_simp; (try with_reducible rfl))
                        (try simp only [Act.put, List.setIfInBounds_toArray, List.set_cons_zero, List.set_cons_succ])
                        refine' wpAnyH_take (i := 1) (v := ?va1) rfl (by kernel_rfl) (by kernel_rfl) (by kernel_rfl) (fun _ _ _ h => h) (Or.inl ⟨by rfl, ?hya1⟩) (by assumption) ?resta1
                        case hya1 => (intro w hSw; (try dsimp only at hSw); go_simp; (try with_reducible rfl))
                        (try simp only [Act.put, List.setIfInBounds_toArray, List.set_cons_zero, List.set_cons_succ])
                        refine' wpAnyH_take (i := 2) (v := ?va2) rfl (by kernel_rfl) (by kernel_rfl) (by kernel_rfl) (fun _ _ _ h => h) (Or.inl ⟨by rfl, ?hya2⟩) (by assumption) ?resta2
                        case hya2 => (intro w hSw; (try dsimp only at hSw); go_simp; (try with_reducible rfl))
                        (try simp only [Act.put, List.setIfInBounds_toArray, List.set_cons_zero, List.set_cons_succ])
                        refine' wpAnyH_take (i := 4) (v := ?va4) rfl (by kernel_rfl) (by kernel_rfl) (by kernel_rfl) (fun _ _ _ h => h) (Or.inl ⟨by rfl, ?hya4⟩) (by assumption) ?resta4
                        case hya4 => (intro w hSw; (try dsimp only at hSw); go_simp; (try with_reducible rfl))
                        (try simp only [Act.put, List.setIfInBounds_toArray, List.set_cons_zero, List.set_cons_succ])
                        refine' wpAnyH_take (i := 5) (v := ?va5) rfl (by kernel_rfl) (by kernel_rfl) (by kernel_rfl) (fun _ _ _ h => h) (Or.inl ⟨by rfl, ?hya5⟩) (by assumption) ?resta5
                        case hya5 => (intro w hSw; (try dsimp only at hSw); go_simp; (try with_reducible rfl))
                        (try simp only [Act.put, List.setIfInBounds_toArray, List.set_cons_zero, List.set_cons_succ])
                        refine' wpAnyH_take (i := 6) (v := ?va6) rfl (by kernel_rfl) (by kernel_rfl) (by kernel_rfl) (fun _ _ _ h => h) (Or.inl ⟨by rfl, ?hya6⟩) (by assumption) ?resta6
                        case hya6 => (intro w hSw; (try dsimp only at hSw); go_simp; (try with_reducible rfl))
                        (try simp only [Act.put, List.setIfInBounds_toArray, List.set_cons_zero, List.set_cons_succ])
                        refine' wpAnyH_take (i := 7) (v := ?va7) rfl (by kernel_rfl) (by kernel_rfl) (by kernel_rfl) (fun _ _ _ h => h) (Or.inl ⟨by rfl, ?hya7⟩) (by assumption) ?resta7
                        case hya7 => (intro w hSw; (try dsimp only at hSw); go_simp; (try with_reducible rfl))
                        (try simp only [Act.put, List.setIfInBounds_toArray, List.set_cons_zero, List.set_cons_succ])
                        refine' wpAnyH_take (i := 9) (v := ?va9) rfl (by kernel_rfl) (by kernel_rfl) (by kernel_rfl) (fun _ _ _ h => h) (Or.inl ⟨by rfl, ?hya9⟩) (by assumption) ?resta9
                        case hya9 => (intro w hSw; (try dsimp only at hSw); go_simp; (try with_reducible rfl))
                        (try simp only [Act.put, List.setIfInBounds_toArray, List.set_cons_zero, List.set_cons_succ])
                        refine' wpAnyH_take (i := 10) (v := ?va10) rfl (by kernel_rfl) (by kernel_rfl) (by kernel_rfl) (fun _ _ _ h => h) (Or.inl ⟨by rfl, ?hya10⟩) (by assumption) ?resta10
                        case hya10 => (intro w hSw; (try dsimp only at hSw); go_simp; (try with_reducible rfl))
                        (try simp only [Act.put, List.setIfInBounds_toArray, List.set_cons_zero, List.set_cons_succ])
                        refine' wpAnyH_take (i := 13) (v := ?va13) rfl (by kernel_rfl) (by kernel_rfl) (by kernel_rfl) (fun _ _ _ h => h) (Or.inl ⟨by rfl, ?hya13⟩) (by assumption) ?resta13
                        case hya13 => (intro w hSw; (try dsimp only at hSw); go_simp; (try with_reducible rfl))
                        (try simp only [Act.put, List.setIfInBounds_toArray, List.set_cons_zero, List.set_cons_succ])
                        refine' wpAnyH_take (i := 14) (v := ?va14) rfl (by kernel_rfl) (by kernel_rfl) (by kernel_rfl) (fun _ _ _ h => h) (Or.inl ⟨by rfl, ?hya14⟩) (by assumption) ?resta14
                        case hya14 => (intro w hSw; (try dsimp only at hSw); go_simp; (try with_reducible rfl))
                        (try simp only [Act.put, List.setIfInBounds_toArray, List.set_cons_zero, List.set_cons_succ])
                        refine' wpAnyH_take (i := 15) (v := ?va15) rfl (by kernel_rfl) (by kernel_rfl) (by kernel_rfl) (fun _ _ _ h => h) (Or.inl ⟨by rfl, ?hya15⟩) (by assumption) ?resta15
                        case hya15 => (intro w hSw; (try dsimp only at hSw); go_simp; (try with_reducible rfl))
                        (try simp only [Act.put, List.setIfInBounds_toArray, List.set_cons_zero, List.set_cons_succ])
                        refine' wpAnyH_take (i := 16) (v := ?va16) rfl (by kernel_rfl) (by kernel_rfl) (by kernel_rfl) (fun _ _ _ h => h) (Or.inl ⟨by rfl, ?hya16⟩) (by assumption) ?resta16
                        case hya16 => (intro w hSw; (try dsimp only at hSw); go_simp; (try with_reducible rfl))
                        (try simp only [Act.put, List.setIfInBounds_toArray, List.set_cons_zero, List.set_cons_succ])
                        refine wpAnyH_ready (rs := [3, 11]) (by kernel_rfl) (by simp) ?_
                        refine AllReadyH.cons rfl (fun K hK => ?_) (AllReadyH.cons rfl (fun K hK => ?_) AllReadyH.nil)
                        · go_simp
                          obtain ⟨WA, hWA⟩ : ∃ WA, (W7.alloc (.cells #[] 3)).drew = WA := ⟨_, rfl⟩
                          try rw [hWA]
                          have hbA : Below W7.heap.size W7 WA := by rw [← hWA]; exact ((Below.refl _ _).alloc (Nat.le_refl _) _).drew
                          have hoA : WA.ownsRow W7.heap.size 3 1 (.slice (some ⟨W7.heap.size, 0, none⟩) 0 0) 0 [] := by rw [← hWA]; exact (made_ints W7).drew
                          have hsA : WA.heap.size = W7.heap.size + 1 := by rw [← hWA]; simp [World.drew]
                          have HA := Lib.hid (And.intro hbA hsA)
                          refine hK.out _ _ (Hkeep.out _ hbA).1 (fun hHeld => ?_)
                          clear hK K
                          (try simp only [Act.put, List.setIfInBounds_toArray, List.set_cons_zero, List.set_cons_succ])
                          clear hWA hsA hHeld
                          refine wpAnyH_ready (rs := [8, 11]) (by kernel_rfl) (by simp) ?_
                          refine AllReadyH.cons rfl (fun K hK => ?_) (AllReadyH.cons rfl (fun K hK => ?_) AllReadyH.nil)
                          · have hle8 : W7.heap.size ≤ WA.heap.size := by have := hbA.size; have := HA.out.2; omega
                            refine step_any WA rfl (.tmp 153) (.tmp 157) 53 3 1 8 _ i0 rfl Tryz.underlying53 hi0 hz0 hz1 hz2 rfl (by decide) W7.heap.size (.slice (some ⟨W7.heap.size, 0, none⟩) 0 0) (0) _ none 0 0 ([]) (by simp [Act.eval, Act.put]) hoA (by simp [Act.eval, Act.put]) (fun _ => rfl) (by rfl) none_news (by simp) (by simp only [maxLen]; omega) (by omega) (by omega) ?_
                            intro v8 w8 ho8 hg8 hat8
                            have hb8 : Below W7.heap.size W7 w8 := FTops.grown_below hbA hg8 hoA (by have := HA.out.2; have := HA.out.1.size; (try have := hbB.size); omega)
                            have hs8 := hg8.size
                            obtain ⟨A8, n8, c8, rfl⟩ := Build.own_form ho8
                            refine hK.out _ _ (Hkeep.out _ hb8).1 (fun hHeld => ?_)
                            clear hK K
                            (try simp only [Act.put, List.setIfInBounds_toArray, List.set_cons_zero, List.set_cons_succ])
                            clear hg8 hat8 hle8 hHeld
                            refine wpAnyH_ready (rs := [11]) (by kernel_rfl) (by simp) ?_
                            refine AllReadyH.cons rfl (fun K hK => ?_) AllReadyH.nil
                            go_simp
                            obtain ⟨WB, hWB⟩ : ∃ WB, w8.alloc (.cells #[.int .i64 (n : Int)] 3) = WB := ⟨_, rfl⟩
                            try rw [hWB]
                            have hbB : Below W7.heap.size W7 WB := by rw [← hWB]; exact hb8.alloc hb8.size _
                            have hcB : WB.cell? ⟨w8.heap.size, 0, none⟩ = some (.int .i64 (n : Int)) := by rw [← hWB]; exact (cell_of_row (w8.alloc (.cells #[.int .i64 (n : Int)] 3)) w8.heap.size 0 #[.int .i64 (n : Int)] 3 (0, 0) (World.alloc_heap_new _ _)).trans rfl
                            have hsB : WB.heap.size = w8.heap.size + 1 := by rw [← hWB]; simp
                            have hoB := own_keep ho8 (w' := WB) (fun g' hg' => by rw [← hWB]; exact Below.heap_alloc _ _ _ (ho8.lt g' hg').2)
                            refine hK.out _ _ (Hkeep.out _ hbB).1 (fun hHeld => ?_)
                            clear hK K
                            (try simp only [Act.put, List.setIfInBounds_toArray, List.set_cons_zero, List.set_cons_succ])
                            clear hWB hHeld
                            refine wpAnyH_ready (rs := [12]) (by kernel_rfl) (by simp) ?_
                            refine AllReadyH.cons rfl (fun K hK => ?_) AllReadyH.nil
                            have hle12 : W7.heap.size ≤ WB.heap.size := by have := hbB.size; (try have := HA.out.2); (try have := HA.out.1.size); (try have := hbB.size); (try have := hsB); (try have := hs8); omega
                            refine step_any WB rfl (.tmp 158) (.tmp 161) 53 3 1 8 _ i0 rfl Tryz.underlying53 hi0 hz0 hz1 hz2 rfl (by decide) W7.heap.size (.slice A8 n8 c8) (0 + 0) _ (some ⟨w8.heap.size, 0, none⟩) 1 1 ([.int .i64 (n : Int)]) (by simp [Act.eval, Act.put]) hoB (by simp [Act.eval, Act.put]) (fun e => by cases e) (by rfl) (one_news hcB) (by simp [Value.oneCell']) (by simp only [maxLen]; omega) (by omega) (by exact hle12) ?_
                            intro v12 w12 ho12 hg12 hat12
                            have hb12 : Below W7.heap.size W7 w12 := FTops.grown_below hbB hg12 hoB (by (try have := HA.out.1.size); (try have := HA.out.2); (try have := hbB.size); omega)
                            have hle17 : W7.heap.size ≤ w12.heap.size := by have := hg12.size; omega
                            obtain ⟨A12, n12, c12, rfl⟩ := Build.own_form ho12
                            refine hK.out _ _ (Hkeep.out _ hb12).1 (fun hHeld => ?_)
                            clear hK K
                            (try simp only [Act.put, List.setIfInBounds_toArray, List.set_cons_zero, List.set_cons_succ])
                            clear hg12 hat12 hle12 hHeld
                            refine wpAnyH_ready (rs := [17]) (by kernel_rfl) (by simp) ?_
                            refine AllReadyH.cons rfl (fun K hK => ?_) AllReadyH.nil
                            refine step_any w12 rfl (.tmp 162) (.tmp 166) 53 3 1 8 _ i0 rfl Tryz.underlying53 hi0 hz0 hz1 hz2 rfl (by decide) W7.heap.size (.slice A12 n12 c12) (0 + 0 + 1) _ none 0 0 ([]) (by simp [Act.eval, Act.put]) ho12 (by simp [Act.eval, Act.put]) (fun _ => rfl) (by rfl) none_news (by simp) (by simp only [maxLen]; omega) (by omega) (by exact hle17) ?_
                            intro v17 w17 ho17 hg17 hat17
                            have hb17 : Below W7.heap.size W7 w17 := FTops.grown_below hb12 hg17 ho12 (by (try have := HA.out.1.size); (try have := HA.out.2); (try have := hbB.size); omega)
                            obtain ⟨A17, n17, c17, rfl⟩ := Build.own_form ho17
                            obtain ⟨hk1, ⟨uc, hk2⟩, hk3⟩ := Hkeep.out w17 hb17
                            refine hK.out _ _ (Hkeep.out _ hb17).1 (fun hHeld => ?_)
                            clear hK K
                            (try simp only [Act.put, List.setIfInBounds_toArray, List.set_cons_zero, List.set_cons_succ])
                            refine' wpAnyH_take (i := 18) (v := ?vxa18) rfl (by kernel_rfl) (by kernel_rfl) (by kernel_rfl) (fun _ _ _ h => h) (Or.inl ⟨by rfl, ?hyxa18⟩) (by assumption) ?restxa18
                            case hyxa18 => (intro w hSw; (try dsimp only at hSw); go_simp; (try with_reducible rfl))
                            (try simp only [Act.put, List.setIfInBounds_toArray, List.set_cons_zero, List.set_cons_succ])
                            refine' wpAnyH_take (i := 19) (v := ?vxa19) rfl (by kernel_rfl) (by kernel_rfl) (by kernel_rfl) (fun _ _ _ h => h) (Or.inl ⟨by rfl, ?hyxa19⟩) (by assumption) ?restxa19
                            case hyxa19 => (intro w hSw; (try dsimp only at hSw); go_simp; (try with_reducible rfl))
                            (try simp only [Act.put, List.setIfInBounds_toArray, List.set_cons_zero, List.set_cons_succ])
                            refine wpAnyH_ready (rs := [20]) (by kernel_rfl) (by simp) ?_
                            refine AllReadyH.cons rfl (fun K hK => ?_) AllReadyH.nil
                            go_simp
                            refine hK.out _ _ ⟨(OwnF.cell_same (Below.heap_setCell _ _ _ _ hbg1) _).trans hk1.1, (OwnF.cell_same (Below.heap_setCell _ _ _ _ hbg1) _).trans hk1.2.1, (OwnF.cell_same (Below.heap_setCell _ _ _ _ hbg1) _).trans hk1.2.2⟩ (fun hHeld => ?_)
                            clear hK K
                            (try simp only [Act.put, List.setIfInBounds_toArray, List.set_cons_zero, List.set_cons_succ])
                            refine wpAnyH_done (by kernel_rfl) ?_ _
                            have hend := Hfin.out w17 (.slice A17 n17 c17) (insertL L 0 (n : Int)) hb17 (ins_rd ho17 (by rw [Work.insertL_length _ (by omega)]; omega) (by rw [List.eq_nil_of_length_eq_zero h0]; rfl) (by have := hgW7; (try have := hbB.size); omega) (Work.insertL_mem HwfL.out Hwfn.out)) rfl
                            have Hend := Lib.hid hend
                            clear hend hk1 hk2 hk3 hHeld
                            go_wp2_with fail
                            go_ret2
                            exact Hend.out
                          · go_simp
                            obtain ⟨WB, hWB⟩ : ∃ WB, WA.alloc (.cells #[.int .i64 (n : Int)] 3) = WB := ⟨_, rfl⟩
                            try rw [hWB]
                            have hbB : Below W7.heap.size W7 WB := by rw [← hWB]; exact hbA.alloc hbA.size _
                            have hcB : WB.cell? ⟨WA.heap.size, 0, none⟩ = some (.int .i64 (n : Int)) := by rw [← hWB]; exact (cell_of_row (WA.alloc (.cells #[.int .i64 (n : Int)] 3)) WA.heap.size 0 #[.int .i64 (n : Int)] 3 (0, 0) (World.alloc_heap_new _ _)).trans rfl
                            have hsB : WB.heap.size = WA.heap.size + 1 := by rw [← hWB]; simp
                            have hoB : WB.ownsRow W7.heap.size 3 1 (.slice (some ⟨W7.heap.size, 0, none⟩) 0 0) 0 [] := by rw [← hWB]; exact own_keep hoA (fun g' hg' => Below.heap_alloc _ _ _ (hoA.lt g' hg').2)
                            refine hK.out _ _ (Hkeep.out _ hbB).1 (fun hHeld => ?_)
                            clear hK K
                            (try simp only [Act.put, List.setIfInBounds_toArray, List.set_cons_zero, List.set_cons_succ])
                            clear hWB hHeld
                            refine wpAnyH_ready (rs := [8]) (by kernel_rfl) (by simp) ?_
                            refine AllReadyH.cons rfl (fun K hK => ?_) AllReadyH.nil
                            have hle8 : W7.heap.size ≤ WB.heap.size := by have := hbB.size; omega
                            refine step_any WB rfl (.tmp 153) (.tmp 157) 53 3 1 8 _ i0 rfl Tryz.underlying53 hi0 hz0 hz1 hz2 rfl (by decide) W7.heap.size (.slice (some ⟨W7.heap.size, 0, none⟩) 0 0) (0) _ none 0 0 ([]) (by simp [Act.eval, Act.put]) hoB (by simp [Act.eval, Act.put]) (fun _ => rfl) (by rfl) none_news (by simp) (by simp only [maxLen]; omega) (by omega) (by omega) ?_
                            intro v8 w8 ho8 hg8 hat8
                            have hb8 : Below W7.heap.size W7 w8 := FTops.grown_below hbB hg8 hoB (by have := HA.out.2; have := HA.out.1.size; (try have := hbB.size); omega)
                            have hc8 : w8.cell? ⟨WA.heap.size, 0, none⟩ = some (.int .i64 (n : Int)) := (OwnF.cell_same (hg8.block WA.heap.size (by have := HA.out.2; have := HA.out.1.size; (try have := hbB.size); first | omega | (rw [hsB]; omega)) (by intro e; injection e with e; have e2 : WA.heap.size = W7.heap.size := e; have := HA.out.2; have := HA.out.1.size; (try have := hbB.size); omega)) 0).trans hcB
                            have hs8 := hg8.size
                            obtain ⟨A8, n8, c8, rfl⟩ := Build.own_form ho8
                            refine hK.out _ _ (Hkeep.out _ hb8).1 (fun hHeld => ?_)
                            clear hK K
                            (try simp only [Act.put, List.setIfInBounds_toArray, List.set_cons_zero, List.set_cons_succ])
                            clear hg8 hat8 hle8 hHeld
                            refine wpAnyH_ready (rs := [12]) (by kernel_rfl) (by simp) ?_
                            refine AllReadyH.cons rfl (fun K hK => ?_) AllReadyH.nil
                            have hle12 : W7.heap.size ≤ w8.heap.size := by have := hb8.size; (try have := HA.out.2); (try have := HA.out.1.size); (try have := hbB.size); (try have := hsB); (try have := hs8); omega
                            refine step_any w8 rfl (.tmp 158) (.tmp 161) 53 3 1 8 _ i0 rfl Tryz.underlying53 hi0 hz0 hz1 hz2 rfl (by decide) W7.heap.size (.slice A8 n8 c8) (0 + 0) _ (some ⟨WA.heap.size, 0, none⟩) 1 1 ([.int .i64 (n : Int)]) (by simp [Act.eval, Act.put]) ho8 (by simp [Act.eval, Act.put]) (fun e => by cases e) (by rfl) (one_news hc8) (by simp [Value.oneCell']) (by simp only [maxLen]; omega) (by omega) (by exact hle12) ?_
                            intro v12 w12 ho12 hg12 hat12
                            have hb12 : Below W7.heap.size W7 w12 := FTops.grown_below hb8 hg12 ho8 (by (try have := HA.out.1.size); (try have := HA.out.2); (try have := hbB.size); omega)
                            have hle17 : W7.heap.size ≤ w12.heap.size := by have := hg12.size; omega
                            obtain ⟨A12, n12, c12, rfl⟩ := Build.own_form ho12
                            refine hK.out _ _ (Hkeep.out _ hb12).1 (fun hHeld => ?_)
                            clear hK K
                            (try simp only [Act.put, List.setIfInBounds_toArray, List.set_cons_zero, List.set_cons_succ])
                            clear hg12 hat12 hle12 hHeld
                            refine wpAnyH_ready (rs := [17]) (by kernel_rfl) (by simp) ?_
                            refine AllReadyH.cons rfl (fun K hK => ?_) AllReadyH.nil
                            refine step_any w12 rfl (.tmp 162) (.tmp 166) 53 3 1 8 _ i0 rfl Tryz.underlying53 hi0 hz0 hz1 hz2 rfl (by decide) W7.heap.size (.slice A12 n12 c12) (0 + 0 + 1) _ none 0 0 ([]) (by simp [Act.eval, Act.put]) ho12 (by simp [Act.eval, Act.put]) (fun _ => rfl) (by rfl) none_news (by simp) (by simp only [maxLen]; omega) (by omega) (by exact hle17) ?_
                            intro v17 w17 ho17 hg17 hat17
                            have hb17 : Below W7.heap.size W7 w17 := FTops.grown_below hb12 hg17 ho12 (by (try have := HA.out.1.size); (try have := HA.out.2); (try have := hbB.size); omega)
                            obtain ⟨A17, n17, c17, rfl⟩ := Build.own_form ho17
                            obtain ⟨hk1, ⟨uc, hk2⟩, hk3⟩ := Hkeep.out w17 hb17
                            refine hK.out _ _ (Hkeep.out _ hb17).1 (fun hHeld => ?_)
                            clear hK K
                            (try simp only [Act.put, List.setIfInBounds_toArray, List.set_cons_zero, List.set_cons_succ])
                            refine' wpAnyH_take (i := 18) (v := ?vxb18) rfl (by kernel_rfl) (by kernel_rfl) (by kernel_rfl) (fun _ _ _ h => h) (Or.inl ⟨by rfl, ?hyxb18⟩) (by assumption) ?restxb18
                            case hyxb18 => (intro w hSw; (try dsimp only at hSw); go_simp; (try with_reducible rfl))
                            (try simp only [Act.put, List.setIfInBounds_toArray, List.set_cons_zero, List.set_cons_succ])
                            refine' wpAnyH_take (i := 19) (v := ?vxb19) rfl (by kernel_rfl) (by kernel_rfl) (by kernel_rfl) (fun _ _ _ h => h) (Or.inl ⟨by rfl, ?hyxb19⟩) (by assumption) ?restxb19
                            case hyxb19 => (intro w hSw; (try dsimp only at hSw); go_simp; (try with_reducible rfl))
                            (try simp only [Act.put, List.setIfInBounds_toArray, List.set_cons_zero, List.set_cons_succ])
                            refine wpAnyH_ready (rs := [20]) (by kernel_rfl) (by simp) ?_
                            refine AllReadyH.cons rfl (fun K hK => ?_) AllReadyH.nil
                            go_simp
                            refine hK.out _ _ ⟨(OwnF.cell_same (Below.heap_setCell _ _ _ _ hbg1) _).trans hk1.1, (OwnF.cell_same (Below.heap_setCell _ _ _ _ hbg1) _).trans hk1.2.1, (OwnF.cell_same (Below.heap_setCell _ _ _ _ hbg1) _).trans hk1.2.2⟩ (fun hHeld => ?_)
                            clear hK K
                            (try simp only [Act.put, List.setIfInBounds_toArray, List.set_cons_zero, List.set_cons_succ])
                            refine wpAnyH_done (by kernel_rfl) ?_ _
                            have hend := Hfin.out w17 (.slice A17 n17 c17) (insertL L 0 (n : Int)) hb17 (ins_rd ho17 (by rw [Work.insertL_length _ (by omega)]; omega) (by rw [List.eq_nil_of_length_eq_zero h0]; rfl) (by have := hgW7; (try have := hbB.size); omega) (Work.insertL_mem HwfL.out Hwfn.out)) rfl
                            have Hend := Lib.hid hend
                            clear hend hk1 hk2 hk3 hHeld
                            go_wp2_with fail
                            go_ret2
                            exact Hend.out
                        · go_simp
                          obtain ⟨WB, hWB⟩ : ∃ WB, (W7.alloc (.cells #[.int .i64 (n : Int)] 3)).drew = WB := ⟨_, rfl⟩
                          try rw [hWB]
                          have hbB : Below W7.heap.size W7 WB := by rw [← hWB]; exact ((Below.refl _ _).alloc (Nat.le_refl _) _).drew
                          have hcB : WB.cell? ⟨W7.heap.size, 0, none⟩ = some (.int .i64 (n : Int)) := by rw [← hWB]; exact (cell_of_row ((W7.alloc (.cells #[.int .i64 (n : Int)] 3)).drew) W7.heap.size 0 #[.int .i64 (n : Int)] 3 (0, 0) (World.alloc_heap_new _ _)).trans rfl
                          have hsB : WB.heap.size = W7.heap.size + 1 := by rw [← hWB]; simp [World.drew]
                          refine hK.out _ _ (Hkeep.out _ hbB).1 (fun hHeld => ?_)
                          clear hK K
                          (try simp only [Act.put, List.setIfInBounds_toArray, List.set_cons_zero, List.set_cons_succ])
                          clear hWB hHeld
                          refine wpAnyH_ready (rs := [3]) (by kernel_rfl) (by simp) ?_
                          refine AllReadyH.cons rfl (fun K hK => ?_) AllReadyH.nil
                          go_simp
                          obtain ⟨WA, hWA⟩ : ∃ WA, WB.alloc (.cells #[] 3) = WA := ⟨_, rfl⟩
                          try rw [hWA]
                          have hbA : Below W7.heap.size W7 WA := by rw [← hWA]; exact hbB.alloc hbB.size _
                          have hoA : WA.ownsRow WB.heap.size 3 1 (.slice (some ⟨WB.heap.size, 0, none⟩) 0 0) 0 [] := by rw [← hWA]; exact made_ints WB
                          have hcA : WA.cell? ⟨W7.heap.size, 0, none⟩ = some (.int .i64 (n : Int)) := by rw [← hWA]; exact cell_alloc hcB _
                          have hsA : WA.heap.size = WB.heap.size + 1 := by rw [← hWA]; simp
                          have HA := Lib.hid (And.intro hbA hsA)
                          refine hK.out _ _ (Hkeep.out _ hbA).1 (fun hHeld => ?_)
                          clear hK K
                          (try simp only [Act.put, List.setIfInBounds_toArray, List.set_cons_zero, List.set_cons_succ])
                          clear hWA hsA hHeld
                          refine wpAnyH_ready (rs := [8]) (by kernel_rfl) (by simp) ?_
                          refine AllReadyH.cons rfl (fun K hK => ?_) AllReadyH.nil
                          have hle8 : WB.heap.size ≤ WA.heap.size := by have := hbA.size; have := HA.out.2; omega
                          refine step_any WA rfl (.tmp 153) (.tmp 157) 53 3 1 8 _ i0 rfl Tryz.underlying53 hi0 hz0 hz1 hz2 rfl (by decide) WB.heap.size (.slice (some ⟨WB.heap.size, 0, none⟩) 0 0) (0) _ none 0 0 ([]) (by simp [Act.eval, Act.put]) hoA (by simp [Act.eval, Act.put]) (fun _ => rfl) (by rfl) none_news (by simp) (by simp only [maxLen]; omega) (by omega) (by omega) ?_
                          intro v8 w8 ho8 hg8 hat8
                          have hb8 : Below W7.heap.size W7 w8 := FTops.grown_below hbA hg8 hoA (by have := HA.out.2; have := HA.out.1.size; (try have := hbB.size); omega)
                          have hc8 : w8.cell? ⟨W7.heap.size, 0, none⟩ = some (.int .i64 (n : Int)) := (OwnF.cell_same (hg8.block W7.heap.size (by have := HA.out.2; have := HA.out.1.size; (try have := hbB.size); first | omega | (rw [hsB]; omega)) (by intro e; injection e with e; have e2 : W7.heap.size = WB.heap.size := e; have := HA.out.2; have := HA.out.1.size; (try have := hbB.size); omega)) 0).trans hcA
                          have hs8 := hg8.size
                          obtain ⟨A8, n8, c8, rfl⟩ := Build.own_form ho8
                          refine hK.out _ _ (Hkeep.out _ hb8).1 (fun hHeld => ?_)
                          clear hK K
                          (try simp only [Act.put, List.setIfInBounds_toArray, List.set_cons_zero, List.set_cons_succ])
                          clear hg8 hat8 hle8 hHeld
                          refine wpAnyH_ready (rs := [12]) (by kernel_rfl) (by simp) ?_
                          refine AllReadyH.cons rfl (fun K hK => ?_) AllReadyH.nil
                          have hle12 : WB.heap.size ≤ w8.heap.size := by have := hb8.size; (try have := HA.out.2); (try have := HA.out.1.size); (try have := hbB.size); (try have := hsB); (try have := hs8); omega
                          refine step_any w8 rfl (.tmp 158) (.tmp 161) 53 3 1 8 _ i0 rfl Tryz.underlying53 hi0 hz0 hz1 hz2 rfl (by decide) WB.heap.size (.slice A8 n8 c8) (0 + 0) _ (some ⟨W7.heap.size, 0, none⟩) 1 1 ([.int .i64 (n : Int)]) (by simp [Act.eval, Act.put]) ho8 (by simp [Act.eval, Act.put]) (fun e => by cases e) (by rfl) (one_news hc8) (by simp [Value.oneCell']) (by simp only [maxLen]; omega) (by omega) (by exact hle12) ?_
                          intro v12 w12 ho12 hg12 hat12
                          have hb12 : Below W7.heap.size W7 w12 := FTops.grown_below hb8 hg12 ho8 (by (try have := HA.out.1.size); (try have := HA.out.2); (try have := hbB.size); omega)
                          have hle17 : WB.heap.size ≤ w12.heap.size := by have := hg12.size; omega
                          obtain ⟨A12, n12, c12, rfl⟩ := Build.own_form ho12
                          refine hK.out _ _ (Hkeep.out _ hb12).1 (fun hHeld => ?_)
                          clear hK K
                          (try simp only [Act.put, List.setIfInBounds_toArray, List.set_cons_zero, List.set_cons_succ])
                          clear hg12 hat12 hle12 hHeld
                          refine wpAnyH_ready (rs := [17]) (by kernel_rfl) (by simp) ?_
                          refine AllReadyH.cons rfl (fun K hK => ?_) AllReadyH.nil
                          refine step_any w12 rfl (.tmp 162) (.tmp 166) 53 3 1 8 _ i0 rfl Tryz.underlying53 hi0 hz0 hz1 hz2 rfl (by decide) WB.heap.size (.slice A12 n12 c12) (0 + 0 + 1) _ none 0 0 ([]) (by simp [Act.eval, Act.put]) ho12 (by simp [Act.eval, Act.put]) (fun _ => rfl) (by rfl) none_news (by simp) (by simp only [maxLen]; omega) (by omega) (by exact hle17) ?_
                          intro v17 w17 ho17 hg17 hat17
                          have hb17 : Below W7.heap.size W7 w17 := FTops.grown_below hb12 hg17 ho12 (by (try have := HA.out.1.size); (try have := HA.out.2); (try have := hbB.size); omega)
                          obtain ⟨A17, n17, c17, rfl⟩ := Build.own_form ho17
                          obtain ⟨hk1, ⟨uc, hk2⟩, hk3⟩ := Hkeep.out w17 hb17
                          refine hK.out _ _ (Hkeep.out _ hb17).1 (fun hHeld => ?_)
                          clear hK K
                          (try simp only [Act.put, List.setIfInBounds_toArray, List.set_cons_zero, List.set_cons_succ])
                          refine' wpAnyH_take (i := 18) (v := ?vxc18) rfl (by kernel_rfl) (by kernel_rfl) (by kernel_rfl) (fun _ _ _ h => h) (Or.inl ⟨by rfl, ?hyxc18⟩) (by assumption) ?restxc18
                          case hyxc18 => (intro w hSw; (try dsimp only at hSw); go_simp; (try with_reducible rfl))
                          (try simp only [Act.put, List.setIfInBounds_toArray, List.set_cons_zero, List.set_cons_succ])
                          refine' wpAnyH_take (i := 19) (v := ?vxc19) rfl (by kernel_rfl) (by kernel_rfl) (by kernel_rfl) (fun _ _ _ h => h) (Or.inl ⟨by rfl, ?hyxc19⟩) (by assumption) ?restxc19
                          case hyxc19 => (intro w hSw; (try dsimp only at hSw); go_simp; (try with_reducible rfl))
                          (try simp only [Act.put, List.setIfInBounds_toArray, List.set_cons_zero, List.set_cons_succ])
                          refine wpAnyH_ready (rs := [20]) (by kernel_rfl) (by simp) ?_
                          refine AllReadyH.cons rfl (fun K hK => ?_) AllReadyH.nil
                          go_simp
                          refine hK.out _ _ ⟨(OwnF.cell_same (Below.heap_setCell _ _ _ _ hbg1) _).trans hk1.1, (OwnF.cell_same (Below.heap_setCell _ _ _ _ hbg1) _).trans hk1.2.1, (OwnF.cell_same (Below.heap_setCell _ _ _ _ hbg1) _).trans hk1.2.2⟩ (fun hHeld => ?_)
                          clear hK K
                          (try simp only [Act.put, List.setIfInBounds_toArray, List.set_cons_zero, List.set_cons_succ])
                          refine wpAnyH_done (by kernel_rfl) ?_ _
                          have hend := Hfin.out w17 (.slice A17 n17 c17) (insertL L 0 (n : Int)) hb17 (ins_rd ho17 (by rw [Work.insertL_length _ (by omega)]; omega) (by rw [List.eq_nil_of_length_eq_zero h0]; rfl) (by have := hgW7; (try have := hbB.size); omega) (Work.insertL_mem HwfL.out Hwfn.out)) rfl
                          have Hend := Lib.hid hend
                          clear hend hk1 hk2 hk3 hHeld
                          go_wp2_with fail
                          go_ret2
                          exact Hend.out
                      · injection hv with e1 _ e3
                        subst e1 e3
                        simp only [maxLen] at hc2
                        have hq3 : IntKind.i64.wrap (k : Int) = (k : Int) := by rw [IntKind.wrap_i64]; omega
                        have hq4 : k ≤ c4 := by omega
                        have hq5 : (k : Int) ≤ (L.length : Int) := by omega
                        have hq6 : (k : Int) ≤ (c4 : Int) := by omega
                        by_cases hck : c4 = k
                        · obtain rfl : k = c4 := hck.symm
                          refine wp_region_held_drew (S := (fun w' => w'.cell? ⟨w.heap.size, 1, none⟩ = some (.int .i64 (n : Int)) ∧ w'.cell? ⟨w.heap.size, 2, none⟩ = some (.int .i64 (t : Int)) ∧ w'.cell? ⟨w.heap.size, 3, none⟩ = some (.int .i64 (k : Int)))) (by kernel_rfl) ⟨v1', v2', v3'⟩ (fun hHeld => ?_)
                          refine' wpAnyH_take (i := 0) (v := ?vb0) rfl (by kernel_rfl) (by kernel_rfl) (by kernel_rfl) (fun _ _ _ h => h) (Or.inl ⟨by rfl, ?hyb0⟩) (by assumption) ?restb0
                          case hyb0 => (intro w hSw; (try dsimp only at hSw); go_simp; (try with_reducible rfl))
                          (try simp only [Act.put, List.setIfInBounds_toArray, List.set_cons_zero, List.set_cons_succ])
                          refine' wpAnyH_take (i := 1) (v := ?vb1) rfl (by kernel_rfl) (by kernel_rfl) (by kernel_rfl) (fun _ _ _ h => h) (Or.inl ⟨by rfl, ?hyb1⟩) (by assumption) ?restb1
                          case hyb1 => (intro w hSw; (try dsimp only at hSw); go_simp; (try with_reducible rfl))
                          (try simp only [Act.put, List.setIfInBounds_toArray, List.set_cons_zero, List.set_cons_succ])
                          refine' wpAnyH_take (i := 2) (v := ?vb2) rfl (by kernel_rfl) (by kernel_rfl) (by kernel_rfl) (fun _ _ _ h => h) (Or.inl ⟨by rfl, ?hyb2⟩) (by assumption) ?restb2
                          case hyb2 => (intro w hSw; (try dsimp only at hSw); go_simp; (try with_reducible rfl))
                          (try simp only [Act.put, List.setIfInBounds_toArray, List.set_cons_zero, List.set_cons_succ])
                          refine' wpAnyH_take (i := 4) (v := ?vb4) rfl (by kernel_rfl) (by kernel_rfl) (by kernel_rfl) (fun _ _ _ h => h) (Or.inl ⟨by rfl, ?hyb4⟩) (by assumption) ?restb4
                          case hyb4 => (intro w hSw; (try dsimp only at hSw); go_simp; (try with_reducible rfl))
                          (try simp only [Act.put, List.setIfInBounds_toArray, List.set_cons_zero, List.set_cons_succ])
                          refine' wpAnyH_take (i := 5) (v := ?vb5) rfl (by kernel_rfl) (by kernel_rfl) (by kernel_rfl) (fun _ _ _ h => h) (Or.inl ⟨by rfl, ?hyb5⟩) (by assumption) ?restb5
                          case hyb5 => (intro w hSw; (try dsimp only at hSw); go_simp; (try with_reducible rfl))
                          (try simp only [Act.put, List.setIfInBounds_toArray, List.set_cons_zero, List.set_cons_succ])
                          refine' wpAnyH_take (i := 6) (v := ?vb6) rfl (by kernel_rfl) (by kernel_rfl) (by kernel_rfl) (fun _ _ _ h => h) (Or.inl ⟨by rfl, ?hyb6⟩) (by assumption) ?restb6
                          case hyb6 => (intro w hSw; (try dsimp only at hSw); go_simp; (try with_reducible rfl))
                          (try simp only [Act.put, List.setIfInBounds_toArray, List.set_cons_zero, List.set_cons_succ])
                          refine' wpAnyH_take (i := 7) (v := ?vb7) rfl (by kernel_rfl) (by kernel_rfl) (by kernel_rfl) (fun _ _ _ h => h) (Or.inl ⟨by rfl, ?hyb7⟩) (by assumption) ?restb7
                          case hyb7 => (intro w hSw; (try dsimp only at hSw); go_simp; (try with_reducible rfl))
                          (try simp only [Act.put, List.setIfInBounds_toArray, List.set_cons_zero, List.set_cons_succ])
                          refine' wpAnyH_take (i := 9) (v := ?vb9) rfl (by kernel_rfl) (by kernel_rfl) (by kernel_rfl) (fun _ _ _ h => h) (Or.inl ⟨by rfl, ?hyb9⟩) (by assumption) ?restb9
                          case hyb9 => (intro w hSw; (try dsimp only at hSw); go_simp; (try with_reducible rfl))
                          (try simp only [Act.put, List.setIfInBounds_toArray, List.set_cons_zero, List.set_cons_succ])
                          refine' wpAnyH_take (i := 10) (v := ?vb10) rfl (by kernel_rfl) (by kernel_rfl) (by kernel_rfl) (fun _ _ _ h => h) (Or.inl ⟨by rfl, ?hyb10⟩) (by assumption) ?restb10
                          case hyb10 => (intro w hSw; (try dsimp only at hSw); go_simp; (try with_reducible rfl))
                          (try simp only [Act.put, List.setIfInBounds_toArray, List.set_cons_zero, List.set_cons_succ])
                          refine' wpAnyH_take (i := 13) (v := ?vb13) rfl (by kernel_rfl) (by kernel_rfl) (by kernel_rfl) (fun _ _ _ h => h) (Or.inl ⟨by rfl, ?hyb13⟩) (by assumption) ?restb13
                          case hyb13 => (intro w hSw; (try dsimp only at hSw); go_simp; (try with_reducible rfl))
                          (try simp only [Act.put, List.setIfInBounds_toArray, List.set_cons_zero, List.set_cons_succ])
                          refine' wpAnyH_take (i := 14) (v := ?vb14) rfl (by kernel_rfl) (by kernel_rfl) (by kernel_rfl) (fun _ _ _ h => h) (Or.inl ⟨by rfl, ?hyb14⟩) (by assumption) ?restb14
                          case hyb14 => (intro w hSw; (try dsimp only at hSw); go_simp; (try with_reducible rfl))
                          (try simp only [Act.put, List.setIfInBounds_toArray, List.set_cons_zero, List.set_cons_succ])
                          refine' wpAnyH_take (i := 15) (v := ?vb15) rfl (by kernel_rfl) (by kernel_rfl) (by kernel_rfl) (fun _ _ _ h => h) (Or.inl ⟨by rfl, ?hyb15⟩) (by assumption) ?restb15
                          case hyb15 => (intro w hSw; (try dsimp only at hSw); go_simp; (try with_reducible rfl))
                          (try simp only [Act.put, List.setIfInBounds_toArray, List.set_cons_zero, List.set_cons_succ])
                          refine' wpAnyH_take (i := 16) (v := ?vb16) rfl (by kernel_rfl) (by kernel_rfl) (by kernel_rfl) (fun _ _ _ h => h) (Or.inl ⟨by rfl, ?hyb16⟩) (by assumption) ?restb16
                          case hyb16 => (intro w hSw; (try dsimp only at hSw); go_simp; (try with_reducible rfl))
                          (try simp only [Act.put, List.setIfInBounds_toArray, List.set_cons_zero, List.set_cons_succ])
                          refine wpAnyH_ready (rs := [3, 11]) (by kernel_rfl) (by simp) ?_
                          refine AllReadyH.cons rfl (fun K hK => ?_) (AllReadyH.cons rfl (fun K hK => ?_) AllReadyH.nil)
                          · go_simp
                            obtain ⟨WA, hWA⟩ : ∃ WA, (W7.alloc (.cells #[] 3)).drew = WA := ⟨_, rfl⟩
                            try rw [hWA]
                            have hbA : Below W7.heap.size W7 WA := by rw [← hWA]; exact ((Below.refl _ _).alloc (Nat.le_refl _) _).drew
                            have hoA : WA.ownsRow W7.heap.size 3 1 (.slice (some ⟨W7.heap.size, 0, none⟩) 0 0) 0 [] := by rw [← hWA]; exact (made_ints W7).drew
                            have hsA : WA.heap.size = W7.heap.size + 1 := by rw [← hWA]; simp [World.drew]
                            have HA := Lib.hid (And.intro hbA hsA)
                            refine hK.out _ _ (Hkeep.out _ hbA).1 (fun hHeld => ?_)
                            clear hK K
                            (try simp only [Act.put, List.setIfInBounds_toArray, List.set_cons_zero, List.set_cons_succ])
                            clear hWA hsA hHeld
                            refine wpAnyH_ready (rs := [8, 11]) (by kernel_rfl) (by simp) ?_
                            refine AllReadyH.cons rfl (fun K hK => ?_) (AllReadyH.cons rfl (fun K hK => ?_) AllReadyH.nil)
                            · have hle8 : W7.heap.size ≤ WA.heap.size := by have := hbA.size; have := HA.out.2; omega
                              refine step_any WA rfl (.tmp 153) (.tmp 157) 53 3 1 8 _ i0 rfl Tryz.underlying53 hi0 hz0 hz1 hz2 rfl (by decide) W7.heap.size (.slice (some ⟨W7.heap.size, 0, none⟩) 0 0) (0) _ (some ⟨g4, 0, none⟩) k k ((L.take k).map (Value.int .i64)) (by simp [Act.eval, Act.put]) hoA (by simp [Act.eval, Act.put]) (fun e => by cases e) (by simp; omega) (take_news (own_keep HL7.out (fun g' hg' => hbA.block g' (HL7.out.lt g' hg').2))) (by intro u hu; obtain ⟨z, _, rfl⟩ := List.mem_map.1 hu; rfl) (by simp only [maxLen]; omega) (by omega) (by omega) ?_
                              intro v8 w8 ho8 hg8 hat8
                              have hb8 : Below W7.heap.size W7 w8 := FTops.grown_below hbA hg8 hoA (by have := HA.out.2; have := HA.out.1.size; (try have := hbB.size); omega)
                              have hs8 := hg8.size
                              obtain ⟨A8, n8, c8, rfl⟩ := Build.own_form ho8
                              refine hK.out _ _ (Hkeep.out _ hb8).1 (fun hHeld => ?_)
                              clear hK K
                              (try simp only [Act.put, List.setIfInBounds_toArray, List.set_cons_zero, List.set_cons_succ])
                              clear hg8 hat8 hle8 hHeld
                              refine wpAnyH_ready (rs := [11]) (by kernel_rfl) (by simp) ?_
                              refine AllReadyH.cons rfl (fun K hK => ?_) AllReadyH.nil
                              go_simp
                              obtain ⟨WB, hWB⟩ : ∃ WB, w8.alloc (.cells #[.int .i64 (n : Int)] 3) = WB := ⟨_, rfl⟩
                              try rw [hWB]
                              have hbB : Below W7.heap.size W7 WB := by rw [← hWB]; exact hb8.alloc hb8.size _
                              have hcB : WB.cell? ⟨w8.heap.size, 0, none⟩ = some (.int .i64 (n : Int)) := by rw [← hWB]; exact (cell_of_row (w8.alloc (.cells #[.int .i64 (n : Int)] 3)) w8.heap.size 0 #[.int .i64 (n : Int)] 3 (0, 0) (World.alloc_heap_new _ _)).trans rfl
                              have hsB : WB.heap.size = w8.heap.size + 1 := by rw [← hWB]; simp
                              have hoB := own_keep ho8 (w' := WB) (fun g' hg' => by rw [← hWB]; exact Below.heap_alloc _ _ _ (ho8.lt g' hg').2)
                              refine hK.out _ _ (Hkeep.out _ hbB).1 (fun hHeld => ?_)
                              clear hK K
                              (try simp only [Act.put, List.setIfInBounds_toArray, List.set_cons_zero, List.set_cons_succ])
                              clear hWB hHeld
                              refine wpAnyH_ready (rs := [12]) (by kernel_rfl) (by simp) ?_
                              refine AllReadyH.cons rfl (fun K hK => ?_) AllReadyH.nil
                              have hle12 : W7.heap.size ≤ WB.heap.size := by have := hbB.size; (try have := HA.out.2); (try have := HA.out.1.size); (try have := hbB.size); (try have := hsB); (try have := hs8); omega
                              refine step_any WB rfl (.tmp 158) (.tmp 161) 53 3 1 8 _ i0 rfl Tryz.underlying53 hi0 hz0 hz1 hz2 rfl (by decide) W7.heap.size (.slice A8 n8 c8) (0 + k) _ (some ⟨w8.heap.size, 0, none⟩) 1 1 ([.int .i64 (n : Int)]) (by simp [Act.eval, Act.put]) hoB (by simp [Act.eval, Act.put]) (fun e => by cases e) (by rfl) (one_news hcB) (by simp [Value.oneCell']) (by simp only [maxLen]; omega) (by omega) (by exact hle12) ?_
                              intro v12 w12 ho12 hg12 hat12
                              have hb12 : Below W7.heap.size W7 w12 := FTops.grown_below hbB hg12 hoB (by (try have := HA.out.1.size); (try have := HA.out.2); (try have := hbB.size); omega)
                              have hle17 : W7.heap.size ≤ w12.heap.size := by have := hg12.size; omega
                              obtain ⟨A12, n12, c12, rfl⟩ := Build.own_form ho12
                              refine hK.out _ _ (Hkeep.out _ hb12).1 (fun hHeld => ?_)
                              clear hK K
                              (try simp only [Act.put, List.setIfInBounds_toArray, List.set_cons_zero, List.set_cons_succ])
                              clear hg12 hat12 hle12 hHeld
                              refine wpAnyH_ready (rs := [17]) (by kernel_rfl) (by simp) ?_
                              refine AllReadyH.cons rfl (fun K hK => ?_) AllReadyH.nil
                              refine step_any w12 rfl (.tmp 162) (.tmp 166) 53 3 1 8 _ i0 rfl Tryz.underlying53 hi0 hz0 hz1 hz2 rfl (by decide) W7.heap.size (.slice A12 n12 c12) (0 + k + 1) _ (some ⟨g4, 0, none⟩) 0 0 ([]) (by simp [Act.eval, Act.put]) ho12 (by simp [Act.eval, Act.put]) (fun e => by cases e) (by rfl) (fun ad e j u hj => by simp at hj) (by simp) (by simp only [maxLen]; omega) (by omega) (by exact hle17) ?_
                              intro v17 w17 ho17 hg17 hat17
                              have hb17 : Below W7.heap.size W7 w17 := FTops.grown_below hb12 hg17 ho12 (by (try have := HA.out.1.size); (try have := HA.out.2); (try have := hbB.size); omega)
                              obtain ⟨A17, n17, c17, rfl⟩ := Build.own_form ho17
                              obtain ⟨hk1, ⟨uc, hk2⟩, hk3⟩ := Hkeep.out w17 hb17
                              refine hK.out _ _ (Hkeep.out _ hb17).1 (fun hHeld => ?_)
                              clear hK K
                              (try simp only [Act.put, List.setIfInBounds_toArray, List.set_cons_zero, List.set_cons_succ])
                              refine' wpAnyH_take (i := 18) (v := ?vya18) rfl (by kernel_rfl) (by kernel_rfl) (by kernel_rfl) (fun _ _ _ h => h) (Or.inl ⟨by rfl, ?hyya18⟩) (by assumption) ?restya18
                              case hyya18 => (intro w hSw; (try dsimp only at hSw); go_simp; (try with_reducible rfl))
                              (try simp only [Act.put, List.setIfInBounds_toArray, List.set_cons_zero, List.set_cons_succ])
                              refine' wpAnyH_take (i := 19) (v := ?vya19) rfl (by kernel_rfl) (by kernel_rfl) (by kernel_rfl) (fun _ _ _ h => h) (Or.inl ⟨by rfl, ?hyya19⟩) (by assumption) ?restya19
                              case hyya19 => (intro w hSw; (try dsimp only at hSw); go_simp; (try with_reducible rfl))
                              (try simp only [Act.put, List.setIfInBounds_toArray, List.set_cons_zero, List.set_cons_succ])
                              refine wpAnyH_ready (rs := [20]) (by kernel_rfl) (by simp) ?_
                              refine AllReadyH.cons rfl (fun K hK => ?_) AllReadyH.nil
                              go_simp
                              refine hK.out _ _ ⟨(OwnF.cell_same (Below.heap_setCell _ _ _ _ hbg1) _).trans hk1.1, (OwnF.cell_same (Below.heap_setCell _ _ _ _ hbg1) _).trans hk1.2.1, (OwnF.cell_same (Below.heap_setCell _ _ _ _ hbg1) _).trans hk1.2.2⟩ (fun hHeld => ?_)
                              clear hK K
                              (try simp only [Act.put, List.setIfInBounds_toArray, List.set_cons_zero, List.set_cons_succ])
                              refine wpAnyH_done (by kernel_rfl) ?_ _
                              have hend := Hfin.out w17 (.slice A17 n17 c17) (insertL L k (n : Int)) hb17 (ins_rd ho17 (by rw [Work.insertL_length _ (by omega)]; omega) (by unfold insertL; rw [List.drop_eq_nil_of_le (by omega)]; simp) (by have := hgW7; (try have := hbB.size); omega) (Work.insertL_mem HwfL.out Hwfn.out)) rfl
                              have Hend := Lib.hid hend
                              clear hend hk1 hk2 hk3 hHeld
                              go_wp2_with fail
                              go_ret2
                              exact Hend.out
                            · go_simp
                              obtain ⟨WB, hWB⟩ : ∃ WB, WA.alloc (.cells #[.int .i64 (n : Int)] 3) = WB := ⟨_, rfl⟩
                              try rw [hWB]
                              have hbB : Below W7.heap.size W7 WB := by rw [← hWB]; exact hbA.alloc hbA.size _
                              have hcB : WB.cell? ⟨WA.heap.size, 0, none⟩ = some (.int .i64 (n : Int)) := by rw [← hWB]; exact (cell_of_row (WA.alloc (.cells #[.int .i64 (n : Int)] 3)) WA.heap.size 0 #[.int .i64 (n : Int)] 3 (0, 0) (World.alloc_heap_new _ _)).trans rfl
                              have hsB : WB.heap.size = WA.heap.size + 1 := by rw [← hWB]; simp
                              have hoB : WB.ownsRow W7.heap.size 3 1 (.slice (some ⟨W7.heap.size, 0, none⟩) 0 0) 0 [] := by rw [← hWB]; exact own_keep hoA (fun g' hg' => Below.heap_alloc _ _ _ (hoA.lt g' hg').2)
                              refine hK.out _ _ (Hkeep.out _ hbB).1 (fun hHeld => ?_)
                              clear hK K
                              (try simp only [Act.put, List.setIfInBounds_toArray, List.set_cons_zero, List.set_cons_succ])
                              clear hWB hHeld
                              refine wpAnyH_ready (rs := [8]) (by kernel_rfl) (by simp) ?_
                              refine AllReadyH.cons rfl (fun K hK => ?_) AllReadyH.nil
                              have hle8 : W7.heap.size ≤ WB.heap.size := by have := hbB.size; omega
                              refine step_any WB rfl (.tmp 153) (.tmp 157) 53 3 1 8 _ i0 rfl Tryz.underlying53 hi0 hz0 hz1 hz2 rfl (by decide) W7.heap.size (.slice (some ⟨W7.heap.size, 0, none⟩) 0 0) (0) _ (some ⟨g4, 0, none⟩) k k ((L.take k).map (Value.int .i64)) (by simp [Act.eval, Act.put]) hoB (by simp [Act.eval, Act.put]) (fun e => by cases e) (by simp; omega) (take_news (own_keep HL7.out (fun g' hg' => hbB.block g' (HL7.out.lt g' hg').2))) (by intro u hu; obtain ⟨z, _, rfl⟩ := List.mem_map.1 hu; rfl) (by simp only [maxLen]; omega) (by omega) (by omega) ?_
                              intro v8 w8 ho8 hg8 hat8
                              have hb8 : Below W7.heap.size W7 w8 := FTops.grown_below hbB hg8 hoB (by have := HA.out.2; have := HA.out.1.size; (try have := hbB.size); omega)
                              have hc8 : w8.cell? ⟨WA.heap.size, 0, none⟩ = some (.int .i64 (n : Int)) := (OwnF.cell_same (hg8.block WA.heap.size (by have := HA.out.2; have := HA.out.1.size; (try have := hbB.size); first | omega | (rw [hsB]; omega)) (by intro e; injection e with e; have e2 : WA.heap.size = W7.heap.size := e; have := HA.out.2; have := HA.out.1.size; (try have := hbB.size); omega)) 0).trans hcB
                              have hs8 := hg8.size
                              obtain ⟨A8, n8, c8, rfl⟩ := Build.own_form ho8
                              refine hK.out _ _ (Hkeep.out _ hb8).1 (fun hHeld => ?_)
                              clear hK K
                              (try simp only [Act.put, List.setIfInBounds_toArray, List.set_cons_zero, List.set_cons_succ])
                              clear hg8 hat8 hle8 hHeld
                              refine wpAnyH_ready (rs := [12]) (by kernel_rfl) (by simp) ?_
                              refine AllReadyH.cons rfl (fun K hK => ?_) AllReadyH.nil
                              have hle12 : W7.heap.size ≤ w8.heap.size := by have := hb8.size; (try have := HA.out.2); (try have := HA.out.1.size); (try have := hbB.size); (try have := hsB); (try have := hs8); omega
                              refine step_any w8 rfl (.tmp 158) (.tmp 161) 53 3 1 8 _ i0 rfl Tryz.underlying53 hi0 hz0 hz1 hz2 rfl (by decide) W7.heap.size (.slice A8 n8 c8) (0 + k) _ (some ⟨WA.heap.size, 0, none⟩) 1 1 ([.int .i64 (n : Int)]) (by simp [Act.eval, Act.put]) ho8 (by simp [Act.eval, Act.put]) (fun e => by cases e) (by rfl) (one_news hc8) (by simp [Value.oneCell']) (by simp only [maxLen]; omega) (by omega) (by exact hle12) ?_
                              intro v12 w12 ho12 hg12 hat12
                              have hb12 : Below W7.heap.size W7 w12 := FTops.grown_below hb8 hg12 ho8 (by (try have := HA.out.1.size); (try have := HA.out.2); (try have := hbB.size); omega)
                              have hle17 : W7.heap.size ≤ w12.heap.size := by have := hg12.size; omega
                              obtain ⟨A12, n12, c12, rfl⟩ := Build.own_form ho12
                              refine hK.out _ _ (Hkeep.out _ hb12).1 (fun hHeld => ?_)
                              clear hK K
                              (try simp only [Act.put, List.setIfInBounds_toArray, List.set_cons_zero, List.set_cons_succ])
                              clear hg12 hat12 hle12 hHeld
                              refine wpAnyH_ready (rs := [17]) (by kernel_rfl) (by simp) ?_
                              refine AllReadyH.cons rfl (fun K hK => ?_) AllReadyH.nil
                              refine step_any w12 rfl (.tmp 162) (.tmp 166) 53 3 1 8 _ i0 rfl Tryz.underlying53 hi0 hz0 hz1 hz2 rfl (by decide) W7.heap.size (.slice A12 n12 c12) (0 + k + 1) _ (some ⟨g4, 0, none⟩) 0 0 ([]) (by simp [Act.eval, Act.put]) ho12 (by simp [Act.eval, Act.put]) (fun e => by cases e) (by rfl) (fun ad e j u hj => by simp at hj) (by simp) (by simp only [maxLen]; omega) (by omega) (by exact hle17) ?_
                              intro v17 w17 ho17 hg17 hat17
                              have hb17 : Below W7.heap.size W7 w17 := FTops.grown_below hb12 hg17 ho12 (by (try have := HA.out.1.size); (try have := HA.out.2); (try have := hbB.size); omega)
                              obtain ⟨A17, n17, c17, rfl⟩ := Build.own_form ho17
                              obtain ⟨hk1, ⟨uc, hk2⟩, hk3⟩ := Hkeep.out w17 hb17
                              refine hK.out _ _ (Hkeep.out _ hb17).1 (fun hHeld => ?_)
                              clear hK K
                              (try simp only [Act.put, List.setIfInBounds_toArray, List.set_cons_zero, List.set_cons_succ])
                              refine' wpAnyH_take (i := 18) (v := ?vyb18) rfl (by kernel_rfl) (by kernel_rfl) (by kernel_rfl) (fun _ _ _ h => h) (Or.inl ⟨by rfl, ?hyyb18⟩) (by assumption) ?restyb18
                              case hyyb18 => (intro w hSw; (try dsimp only at hSw); go_simp; (try with_reducible rfl))
                              (try simp only [Act.put, List.setIfInBounds_toArray, List.set_cons_zero, List.set_cons_succ])
                              refine' wpAnyH_take (i := 19) (v := ?vyb19) rfl (by kernel_rfl) (by kernel_rfl) (by kernel_rfl) (fun _ _ _ h => h) (Or.inl ⟨by rfl, ?hyyb19⟩) (by assumption) ?restyb19
                              case hyyb19 => (intro w hSw; (try dsimp only at hSw); go_simp; (try with_reducible rfl))
                              (try simp only [Act.put, List.setIfInBounds_toArray, List.set_cons_zero, List.set_cons_succ])
                              refine wpAnyH_ready (rs := [20]) (by kernel_rfl) (by simp) ?_
                              refine AllReadyH.cons rfl (fun K hK => ?_) AllReadyH.nil
                              go_simp
                              refine hK.out _ _ ⟨(OwnF.cell_same (Below.heap_setCell _ _ _ _ hbg1) _).trans hk1.1, (OwnF.cell_same (Below.heap_setCell _ _ _ _ hbg1) _).trans hk1.2.1, (OwnF.cell_same (Below.heap_setCell _ _ _ _ hbg1) _).trans hk1.2.2⟩ (fun hHeld => ?_)
                              clear hK K
                              (try simp only [Act.put, List.setIfInBounds_toArray, List.set_cons_zero, List.set_cons_succ])
                              refine wpAnyH_done (by kernel_rfl) ?_ _
                              have hend := Hfin.out w17 (.slice A17 n17 c17) (insertL L k (n : Int)) hb17 (ins_rd ho17 (by rw [Work.insertL_length _ (by omega)]; omega) (by unfold insertL; rw [List.drop_eq_nil_of_le (by omega)]; simp) (by have := hgW7; (try have := hbB.size); omega) (Work.insertL_mem HwfL.out Hwfn.out)) rfl
                              have Hend := Lib.hid hend
                              clear hend hk1 hk2 hk3 hHeld
                              go_wp2_with fail
                              go_ret2
                              exact Hend.out
                          · go_simp
                            obtain ⟨WB, hWB⟩ : ∃ WB, (W7.alloc (.cells #[.int .i64 (n : Int)] 3)).drew = WB := ⟨_, rfl⟩
                            try rw [hWB]
                            have hbB : Below W7.heap.size W7 WB := by rw [← hWB]; exact ((Below.refl _ _).alloc (Nat.le_refl _) _).drew
                            have hcB : WB.cell? ⟨W7.heap.size, 0, none⟩ = some (.int .i64 (n : Int)) := by rw [← hWB]; exact (cell_of_row ((W7.alloc (.cells #[.int .i64 (n : Int)] 3)).drew) W7.heap.size 0 #[.int .i64 (n : Int)] 3 (0, 0) (World.alloc_heap_new _ _)).trans rfl
                            have hsB : WB.heap.size = W7.heap.size + 1 := by rw [← hWB]; simp [World.drew]
                            refine hK.out _ _ (Hkeep.out _ hbB).1 (fun hHeld => ?_)
                            clear hK K
                            (try simp only [Act.put, List.setIfInBounds_toArray, List.set_cons_zero, List.set_cons_succ])
                            clear hWB hHeld
                            refine wpAnyH_ready (rs := [3]) (by kernel_rfl) (by simp) ?_
                            refine AllReadyH.cons rfl (fun K hK => ?_) AllReadyH.nil
                            go_simp
                            obtain ⟨WA, hWA⟩ : ∃ WA, WB.alloc (.cells #[] 3) = WA := ⟨_, rfl⟩
                            try rw [hWA]
                            have hbA : Below W7.heap.size W7 WA := by rw [← hWA]; exact hbB.alloc hbB.size _
                            have hoA : WA.ownsRow WB.heap.size 3 1 (.slice (some ⟨WB.heap.size, 0, none⟩) 0 0) 0 [] := by rw [← hWA]; exact made_ints WB
                            have hcA : WA.cell? ⟨W7.heap.size, 0, none⟩ = some (.int .i64 (n : Int)) := by rw [← hWA]; exact cell_alloc hcB _
                            have hsA : WA.heap.size = WB.heap.size + 1 := by rw [← hWA]; simp
                            have HA := Lib.hid (And.intro hbA hsA)
                            refine hK.out _ _ (Hkeep.out _ hbA).1 (fun hHeld => ?_)
                            clear hK K
                            (try simp only [Act.put, List.setIfInBounds_toArray, List.set_cons_zero, List.set_cons_succ])
                            clear hWA hsA hHeld
                            refine wpAnyH_ready (rs := [8]) (by kernel_rfl) (by simp) ?_
                            refine AllReadyH.cons rfl (fun K hK => ?_) AllReadyH.nil
                            have hle8 : WB.heap.size ≤ WA.heap.size := by have := hbA.size; have := HA.out.2; omega
                            refine step_any WA rfl (.tmp 153) (.tmp 157) 53 3 1 8 _ i0 rfl Tryz.underlying53 hi0 hz0 hz1 hz2 rfl (by decide) WB.heap.size (.slice (some ⟨WB.heap.size, 0, none⟩) 0 0) (0) _ (some ⟨g4, 0, none⟩) k k ((L.take k).map (Value.int .i64)) (by simp [Act.eval, Act.put]) hoA (by simp [Act.eval, Act.put]) (fun e => by cases e) (by simp; omega) (take_news (own_keep HL7.out (fun g' hg' => hbA.block g' (HL7.out.lt g' hg').2))) (by intro u hu; obtain ⟨z, _, rfl⟩ := List.mem_map.1 hu; rfl) (by simp only [maxLen]; omega) (by omega) (by omega) ?_
                            intro v8 w8 ho8 hg8 hat8
                            have hb8 : Below W7.heap.size W7 w8 := FTops.grown_below hbA hg8 hoA (by have := HA.out.2; have := HA.out.1.size; (try have := hbB.size); omega)
                            have hc8 : w8.cell? ⟨W7.heap.size, 0, none⟩ = some (.int .i64 (n : Int)) := (OwnF.cell_same (hg8.block W7.heap.size (by have := HA.out.2; have := HA.out.1.size; (try have := hbB.size); first | omega | (rw [hsB]; omega)) (by intro e; injection e with e; have e2 : W7.heap.size = WB.heap.size := e; have := HA.out.2; have := HA.out.1.size; (try have := hbB.size); omega)) 0).trans hcA
                            have hs8 := hg8.size
                            obtain ⟨A8, n8, c8, rfl⟩ := Build.own_form ho8
                            refine hK.out _ _ (Hkeep.out _ hb8).1 (fun hHeld => ?_)
                            clear hK K
                            (try simp only [Act.put, List.setIfInBounds_toArray, List.set_cons_zero, List.set_cons_succ])
                            clear hg8 hat8 hle8 hHeld
                            refine wpAnyH_ready (rs := [12]) (by kernel_rfl) (by simp) ?_
                            refine AllReadyH.cons rfl (fun K hK => ?_) AllReadyH.nil
                            have hle12 : WB.heap.size ≤ w8.heap.size := by have := hb8.size; (try have := HA.out.2); (try have := HA.out.1.size); (try have := hbB.size); (try have := hsB); (try have := hs8); omega
                            refine step_any w8 rfl (.tmp 158) (.tmp 161) 53 3 1 8 _ i0 rfl Tryz.underlying53 hi0 hz0 hz1 hz2 rfl (by decide) WB.heap.size (.slice A8 n8 c8) (0 + k) _ (some ⟨W7.heap.size, 0, none⟩) 1 1 ([.int .i64 (n : Int)]) (by simp [Act.eval, Act.put]) ho8 (by simp [Act.eval, Act.put]) (fun e => by cases e) (by rfl) (one_news hc8) (by simp [Value.oneCell']) (by simp only [maxLen]; omega) (by omega) (by exact hle12) ?_
                            intro v12 w12 ho12 hg12 hat12
                            have hb12 : Below W7.heap.size W7 w12 := FTops.grown_below hb8 hg12 ho8 (by (try have := HA.out.1.size); (try have := HA.out.2); (try have := hbB.size); omega)
                            have hle17 : WB.heap.size ≤ w12.heap.size := by have := hg12.size; omega
                            obtain ⟨A12, n12, c12, rfl⟩ := Build.own_form ho12
                            refine hK.out _ _ (Hkeep.out _ hb12).1 (fun hHeld => ?_)
                            clear hK K
                            (try simp only [Act.put, List.setIfInBounds_toArray, List.set_cons_zero, List.set_cons_succ])
                            clear hg12 hat12 hle12 hHeld
                            refine wpAnyH_ready (rs := [17]) (by kernel_rfl) (by simp) ?_
                            refine AllReadyH.cons rfl (fun K hK => ?_) AllReadyH.nil
                            refine step_any w12 rfl (.tmp 162) (.tmp 166) 53 3 1 8 _ i0 rfl Tryz.underlying53 hi0 hz0 hz1 hz2 rfl (by decide) WB.heap.size (.slice A12 n12 c12) (0 + k + 1) _ (some ⟨g4, 0, none⟩) 0 0 ([]) (by simp [Act.eval, Act.put]) ho12 (by simp [Act.eval, Act.put]) (fun e => by cases e) (by rfl) (fun ad e j u hj => by simp at hj) (by simp) (by simp only [maxLen]; omega) (by omega) (by exact hle17) ?_
                            intro v17 w17 ho17 hg17 hat17
                            have hb17 : Below W7.heap.size W7 w17 := FTops.grown_below hb12 hg17 ho12 (by (try have := HA.out.1.size); (try have := HA.out.2); (try have := hbB.size); omega)
                            obtain ⟨A17, n17, c17, rfl⟩ := Build.own_form ho17
                            obtain ⟨hk1, ⟨uc, hk2⟩, hk3⟩ := Hkeep.out w17 hb17
                            refine hK.out _ _ (Hkeep.out _ hb17).1 (fun hHeld => ?_)
                            clear hK K
                            (try simp only [Act.put, List.setIfInBounds_toArray, List.set_cons_zero, List.set_cons_succ])
                            refine' wpAnyH_take (i := 18) (v := ?vyc18) rfl (by kernel_rfl) (by kernel_rfl) (by kernel_rfl) (fun _ _ _ h => h) (Or.inl ⟨by rfl, ?hyyc18⟩) (by assumption) ?restyc18
                            case hyyc18 => (intro w hSw; (try dsimp only at hSw); go_simp; (try with_reducible rfl))
                            (try simp only [Act.put, List.setIfInBounds_toArray, List.set_cons_zero, List.set_cons_succ])
                            refine' wpAnyH_take (i := 19) (v := ?vyc19) rfl (by kernel_rfl) (by kernel_rfl) (by kernel_rfl) (fun _ _ _ h => h) (Or.inl ⟨by rfl, ?hyyc19⟩) (by assumption) ?restyc19
                            case hyyc19 => (intro w hSw; (try dsimp only at hSw); go_simp; (try with_reducible rfl))
                            (try simp only [Act.put, List.setIfInBounds_toArray, List.set_cons_zero, List.set_cons_succ])
                            refine wpAnyH_ready (rs := [20]) (by kernel_rfl) (by simp) ?_
                            refine AllReadyH.cons rfl (fun K hK => ?_) AllReadyH.nil
                            go_simp
                            refine hK.out _ _ ⟨(OwnF.cell_same (Below.heap_setCell _ _ _ _ hbg1) _).trans hk1.1, (OwnF.cell_same (Below.heap_setCell _ _ _ _ hbg1) _).trans hk1.2.1, (OwnF.cell_same (Below.heap_setCell _ _ _ _ hbg1) _).trans hk1.2.2⟩ (fun hHeld => ?_)
                            clear hK K
                            (try simp only [Act.put, List.setIfInBounds_toArray, List.set_cons_zero, List.set_cons_succ])
                            refine wpAnyH_done (by kernel_rfl) ?_ _
                            have hend := Hfin.out w17 (.slice A17 n17 c17) (insertL L k (n : Int)) hb17 (ins_rd ho17 (by rw [Work.insertL_length _ (by omega)]; omega) (by unfold insertL; rw [List.drop_eq_nil_of_le (by omega)]; simp) (by have := hgW7; (try have := hbB.size); omega) (Work.insertL_mem HwfL.out Hwfn.out)) rfl
                            have Hend := Lib.hid hend
                            clear hend hk1 hk2 hk3 hHeld
                            go_wp2_with fail
                            go_ret2
                            exact Hend.out
                        · have hck2 : ¬ (c4 : Int) = (k : Int) := by omega
                          refine wp_region_held_drew (S := (fun w' => w'.cell? ⟨w.heap.size, 1, none⟩ = some (.int .i64 (n : Int)) ∧ w'.cell? ⟨w.heap.size, 2, none⟩ = some (.int .i64 (t : Int)) ∧ w'.cell? ⟨w.heap.size, 3, none⟩ = some (.int .i64 (k : Int)))) (by kernel_rfl) ⟨v1', v2', v3'⟩ (fun hHeld => ?_)
                          refine' wpAnyH_take (i := 0) (v := ?vc0) rfl (by kernel_rfl) (by kernel_rfl) (by kernel_rfl) (fun _ _ _ h => h) (Or.inl ⟨by rfl, ?hyc0⟩) (by assumption) ?restc0
                          case hyc0 => (intro w hSw; (try dsimp only at hSw); go_simp; (try with_reducible rfl))
                          (try simp only [Act.put, List.setIfInBounds_toArray, List.set_cons_zero, List.set_cons_succ])
                          refine' wpAnyH_take (i := 1) (v := ?vc1) rfl (by kernel_rfl) (by kernel_rfl) (by kernel_rfl) (fun _ _ _ h => h) (Or.inl ⟨by rfl, ?hyc1⟩) (by assumption) ?restc1
                          case hyc1 => (intro w hSw; (try dsimp only at hSw); go_simp; (try with_reducible rfl))
                          (try simp only [Act.put, List.setIfInBounds_toArray, List.set_cons_zero, List.set_cons_succ])
                          refine' wpAnyH_take (i := 2) (v := ?vc2) rfl (by kernel_rfl) (by kernel_rfl) (by kernel_rfl) (fun _ _ _ h => h) (Or.inl ⟨by rfl, ?hyc2⟩) (by assumption) ?restc2
                          case hyc2 => (intro w hSw; (try dsimp only at hSw); go_simp; (try with_reducible rfl))
                          (try simp only [Act.put, List.setIfInBounds_toArray, List.set_cons_zero, List.set_cons_succ])
                          refine' wpAnyH_take (i := 4) (v := ?vc4) rfl (by kernel_rfl) (by kernel_rfl) (by kernel_rfl) (fun _ _ _ h => h) (Or.inl ⟨by rfl, ?hyc4⟩) (by assumption) ?restc4
                          case hyc4 => (intro w hSw; (try dsimp only at hSw); go_simp; (try with_reducible rfl))
                          (try simp only [Act.put, List.setIfInBounds_toArray, List.set_cons_zero, List.set_cons_succ])
                          refine' wpAnyH_take (i := 5) (v := ?vc5) rfl (by kernel_rfl) (by kernel_rfl) (by kernel_rfl) (fun _ _ _ h => h) (Or.inl ⟨by rfl, ?hyc5⟩) (by assumption) ?restc5
                          case hyc5 => (intro w hSw; (try dsimp only at hSw); go_simp; (try with_reducible rfl))
                          (try simp only [Act.put, List.setIfInBounds_toArray, List.set_cons_zero, List.set_cons_succ])
                          refine' wpAnyH_take (i := 6) (v := ?vc6) rfl (by kernel_rfl) (by kernel_rfl) (by kernel_rfl) (fun _ _ _ h => h) (Or.inl ⟨by rfl, ?hyc6⟩) (by assumption) ?restc6
                          case hyc6 => (intro w hSw; (try dsimp only at hSw); go_simp; (try with_reducible rfl))
                          (try simp only [Act.put, List.setIfInBounds_toArray, List.set_cons_zero, List.set_cons_succ])
                          refine' wpAnyH_take (i := 7) (v := ?vc7) rfl (by kernel_rfl) (by kernel_rfl) (by kernel_rfl) (fun _ _ _ h => h) (Or.inl ⟨by rfl, ?hyc7⟩) (by assumption) ?restc7
                          case hyc7 => (intro w hSw; (try dsimp only at hSw); go_simp; (try with_reducible rfl))
                          (try simp only [Act.put, List.setIfInBounds_toArray, List.set_cons_zero, List.set_cons_succ])
                          refine' wpAnyH_take (i := 9) (v := ?vc9) rfl (by kernel_rfl) (by kernel_rfl) (by kernel_rfl) (fun _ _ _ h => h) (Or.inl ⟨by rfl, ?hyc9⟩) (by assumption) ?restc9
                          case hyc9 => (intro w hSw; (try dsimp only at hSw); go_simp; (try with_reducible rfl))
                          (try simp only [Act.put, List.setIfInBounds_toArray, List.set_cons_zero, List.set_cons_succ])
                          refine' wpAnyH_take (i := 10) (v := ?vc10) rfl (by kernel_rfl) (by kernel_rfl) (by kernel_rfl) (fun _ _ _ h => h) (Or.inl ⟨by rfl, ?hyc10⟩) (by assumption) ?restc10
                          case hyc10 => (intro w hSw; (try dsimp only at hSw); go_simp; (try with_reducible rfl))
                          (try simp only [Act.put, List.setIfInBounds_toArray, List.set_cons_zero, List.set_cons_succ])
                          refine' wpAnyH_take (i := 13) (v := ?vc13) rfl (by kernel_rfl) (by kernel_rfl) (by kernel_rfl) (fun _ _ _ h => h) (Or.inl ⟨by rfl, ?hyc13⟩) (by assumption) ?restc13
                          case hyc13 => (intro w hSw; (try dsimp only at hSw); go_simp; (try with_reducible rfl))
                          (try simp only [Act.put, List.setIfInBounds_toArray, List.set_cons_zero, List.set_cons_succ])
                          refine' wpAnyH_take (i := 14) (v := ?vc14) rfl (by kernel_rfl) (by kernel_rfl) (by kernel_rfl) (fun _ _ _ h => h) (Or.inl ⟨by rfl, ?hyc14⟩) (by assumption) ?restc14
                          case hyc14 => (intro w hSw; (try dsimp only at hSw); go_simp; (try with_reducible rfl))
                          (try simp only [Act.put, List.setIfInBounds_toArray, List.set_cons_zero, List.set_cons_succ])
                          refine' wpAnyH_take (i := 15) (v := ?vc15) rfl (by kernel_rfl) (by kernel_rfl) (by kernel_rfl) (fun _ _ _ h => h) (Or.inl ⟨by rfl, ?hyc15⟩) (by assumption) ?restc15
                          case hyc15 => (intro w hSw; (try dsimp only at hSw); go_simp; (try with_reducible rfl))
                          (try simp only [Act.put, List.setIfInBounds_toArray, List.set_cons_zero, List.set_cons_succ])
                          refine' wpAnyH_take (i := 16) (v := ?vc16) rfl (by kernel_rfl) (by kernel_rfl) (by kernel_rfl) (fun _ _ _ h => h) (Or.inl ⟨by rfl, ?hyc16⟩) (by assumption) ?restc16
                          case hyc16 => (intro w hSw; (try dsimp only at hSw); go_simp; (try with_reducible rfl))
                          (try simp only [Act.put, List.setIfInBounds_toArray, List.set_cons_zero, List.set_cons_succ])
                          refine wpAnyH_ready (rs := [3, 11]) (by kernel_rfl) (by simp) ?_
                          refine AllReadyH.cons rfl (fun K hK => ?_) (AllReadyH.cons rfl (fun K hK => ?_) AllReadyH.nil)
                          · go_simp
                            obtain ⟨WA, hWA⟩ : ∃ WA, (W7.alloc (.cells #[] 3)).drew = WA := ⟨_, rfl⟩
                            try rw [hWA]
                            have hbA : Below W7.heap.size W7 WA := by rw [← hWA]; exact ((Below.refl _ _).alloc (Nat.le_refl _) _).drew
                            have hoA : WA.ownsRow W7.heap.size 3 1 (.slice (some ⟨W7.heap.size, 0, none⟩) 0 0) 0 [] := by rw [← hWA]; exact (made_ints W7).drew
                            have hsA : WA.heap.size = W7.heap.size + 1 := by rw [← hWA]; simp [World.drew]
                            have HA := Lib.hid (And.intro hbA hsA)
                            refine hK.out _ _ (Hkeep.out _ hbA).1 (fun hHeld => ?_)
                            clear hK K
                            (try simp only [Act.put, List.setIfInBounds_toArray, List.set_cons_zero, List.set_cons_succ])
                            clear hWA hsA hHeld
                            refine wpAnyH_ready (rs := [8, 11]) (by kernel_rfl) (by simp) ?_
                            refine AllReadyH.cons rfl (fun K hK => ?_) (AllReadyH.cons rfl (fun K hK => ?_) AllReadyH.nil)
                            · have hle8 : W7.heap.size ≤ WA.heap.size := by have := hbA.size; have := HA.out.2; omega
                              refine step_any WA rfl (.tmp 153) (.tmp 157) 53 3 1 8 _ i0 rfl Tryz.underlying53 hi0 hz0 hz1 hz2 rfl (by decide) W7.heap.size (.slice (some ⟨W7.heap.size, 0, none⟩) 0 0) (0) _ (some ⟨g4, 0, none⟩) k c4 ((L.take k).map (Value.int .i64)) (by simp [Act.eval, Act.put]) hoA (by simp [Act.eval, Act.put]) (fun e => by cases e) (by simp; omega) (take_news (own_keep HL7.out (fun g' hg' => hbA.block g' (HL7.out.lt g' hg').2))) (by intro u hu; obtain ⟨z, _, rfl⟩ := List.mem_map.1 hu; rfl) (by simp only [maxLen]; omega) (by omega) (by omega) ?_
                              intro v8 w8 ho8 hg8 hat8
                              have hb8 : Below W7.heap.size W7 w8 := FTops.grown_below hbA hg8 hoA (by have := HA.out.2; have := HA.out.1.size; (try have := hbB.size); omega)
                              have hs8 := hg8.size
                              obtain ⟨A8, n8, c8, rfl⟩ := Build.own_form ho8
                              refine hK.out _ _ (Hkeep.out _ hb8).1 (fun hHeld => ?_)
                              clear hK K
                              (try simp only [Act.put, List.setIfInBounds_toArray, List.set_cons_zero, List.set_cons_succ])
                              clear hg8 hat8 hle8 hHeld
                              refine wpAnyH_ready (rs := [11]) (by kernel_rfl) (by simp) ?_
                              refine AllReadyH.cons rfl (fun K hK => ?_) AllReadyH.nil
                              go_simp
                              obtain ⟨WB, hWB⟩ : ∃ WB, w8.alloc (.cells #[.int .i64 (n : Int)] 3) = WB := ⟨_, rfl⟩
                              try rw [hWB]
                              have hbB : Below W7.heap.size W7 WB := by rw [← hWB]; exact hb8.alloc hb8.size _
                              have hcB : WB.cell? ⟨w8.heap.size, 0, none⟩ = some (.int .i64 (n : Int)) := by rw [← hWB]; exact (cell_of_row (w8.alloc (.cells #[.int .i64 (n : Int)] 3)) w8.heap.size 0 #[.int .i64 (n : Int)] 3 (0, 0) (World.alloc_heap_new _ _)).trans rfl
                              have hsB : WB.heap.size = w8.heap.size + 1 := by rw [← hWB]; simp
                              have hoB := own_keep ho8 (w' := WB) (fun g' hg' => by rw [← hWB]; exact Below.heap_alloc _ _ _ (ho8.lt g' hg').2)
                              refine hK.out _ _ (Hkeep.out _ hbB).1 (fun hHeld => ?_)
                              clear hK K
                              (try simp only [Act.put, List.setIfInBounds_toArray, List.set_cons_zero, List.set_cons_succ])
                              clear hWB hHeld
                              refine wpAnyH_ready (rs := [12]) (by kernel_rfl) (by simp) ?_
                              refine AllReadyH.cons rfl (fun K hK => ?_) AllReadyH.nil
                              have hle12 : W7.heap.size ≤ WB.heap.size := by have := hbB.size; (try have := HA.out.2); (try have := HA.out.1.size); (try have := hbB.size); (try have := hsB); (try have := hs8); omega
                              refine step_any WB rfl (.tmp 158) (.tmp 161) 53 3 1 8 _ i0 rfl Tryz.underlying53 hi0 hz0 hz1 hz2 rfl (by decide) W7.heap.size (.slice A8 n8 c8) (0 + k) _ (some ⟨w8.heap.size, 0, none⟩) 1 1 ([.int .i64 (n : Int)]) (by simp [Act.eval, Act.put]) hoB (by simp [Act.eval, Act.put]) (fun e => by cases e) (by rfl) (one_news hcB) (by simp [Value.oneCell']) (by simp only [maxLen]; omega) (by omega) (by exact hle12) ?_
                              intro v12 w12 ho12 hg12 hat12
                              have hb12 : Below W7.heap.size W7 w12 := FTops.grown_below hbB hg12 hoB (by (try have := HA.out.1.size); (try have := HA.out.2); (try have := hbB.size); omega)
                              have hle17 : W7.heap.size ≤ w12.heap.size := by have := hg12.size; omega
                              obtain ⟨A12, n12, c12, rfl⟩ := Build.own_form ho12
                              refine hK.out _ _ (Hkeep.out _ hb12).1 (fun hHeld => ?_)
                              clear hK K
                              (try simp only [Act.put, List.setIfInBounds_toArray, List.set_cons_zero, List.set_cons_succ])
                              clear hg12 hat12 hle12 hHeld
                              refine wpAnyH_ready (rs := [17]) (by kernel_rfl) (by simp) ?_
                              refine AllReadyH.cons rfl (fun K hK => ?_) AllReadyH.nil
                              refine step_any w12 rfl (.tmp 162) (.tmp 166) 53 3 1 8 _ i0 rfl Tryz.underlying53 hi0 hz0 hz1 hz2 rfl (by decide) W7.heap.size (.slice A12 n12 c12) (0 + k + 1) _ (some ⟨g4, k, none⟩) (L.length - k) (c4 - k) ((L.drop k).map (Value.int .i64)) (by simp [Act.eval, Act.put]) ho12 (by simp [Act.eval, Act.put]) (fun e => by cases e) (by simp) (drop_news (own_keep HL7.out (fun g' hg' => hb12.block g' (HL7.out.lt g' hg').2))) (by intro u hu; obtain ⟨z, _, rfl⟩ := List.mem_map.1 hu; rfl) (by simp only [maxLen]; omega) (by omega) (by exact hle17) ?_
                              intro v17 w17 ho17 hg17 hat17
                              have hb17 : Below W7.heap.size W7 w17 := FTops.grown_below hb12 hg17 ho12 (by (try have := HA.out.1.size); (try have := HA.out.2); (try have := hbB.size); omega)
                              obtain ⟨A17, n17, c17, rfl⟩ := Build.own_form ho17
                              obtain ⟨hk1, ⟨uc, hk2⟩, hk3⟩ := Hkeep.out w17 hb17
                              refine hK.out _ _ (Hkeep.out _ hb17).1 (fun hHeld => ?_)
                              clear hK K
                              (try simp only [Act.put, List.setIfInBounds_toArray, List.set_cons_zero, List.set_cons_succ])
                              refine' wpAnyH_take (i := 18) (v := ?vza18) rfl (by kernel_rfl) (by kernel_rfl) (by kernel_rfl) (fun _ _ _ h => h) (Or.inl ⟨by rfl, ?hyza18⟩) (by assumption) ?restza18
                              case hyza18 => (intro w hSw; (try dsimp only at hSw); go_simp; (try with_reducible rfl))
                              (try simp only [Act.put, List.setIfInBounds_toArray, List.set_cons_zero, List.set_cons_succ])
                              refine' wpAnyH_take (i := 19) (v := ?vza19) rfl (by kernel_rfl) (by kernel_rfl) (by kernel_rfl) (fun _ _ _ h => h) (Or.inl ⟨by rfl, ?hyza19⟩) (by assumption) ?restza19
                              case hyza19 => (intro w hSw; (try dsimp only at hSw); go_simp; (try with_reducible rfl))
                              (try simp only [Act.put, List.setIfInBounds_toArray, List.set_cons_zero, List.set_cons_succ])
                              refine wpAnyH_ready (rs := [20]) (by kernel_rfl) (by simp) ?_
                              refine AllReadyH.cons rfl (fun K hK => ?_) AllReadyH.nil
                              go_simp
                              refine hK.out _ _ ⟨(OwnF.cell_same (Below.heap_setCell _ _ _ _ hbg1) _).trans hk1.1, (OwnF.cell_same (Below.heap_setCell _ _ _ _ hbg1) _).trans hk1.2.1, (OwnF.cell_same (Below.heap_setCell _ _ _ _ hbg1) _).trans hk1.2.2⟩ (fun hHeld => ?_)
                              clear hK K
                              (try simp only [Act.put, List.setIfInBounds_toArray, List.set_cons_zero, List.set_cons_succ])
                              refine wpAnyH_done (by kernel_rfl) ?_ _
                              have hend := Hfin.out w17 (.slice A17 n17 c17) (insertL L k (n : Int)) hb17 (ins_rd ho17 (by rw [Work.insertL_length _ (by omega)]; omega) (by unfold insertL; simp) (by have := hgW7; (try have := hbB.size); omega) (Work.insertL_mem HwfL.out Hwfn.out)) rfl
                              have Hend := Lib.hid hend
                              clear hend hk1 hk2 hk3 hHeld
                              go_wp2_with fail
                              go_ret2
                              exact Hend.out
                            · go_simp
                              obtain ⟨WB, hWB⟩ : ∃ WB, WA.alloc (.cells #[.int .i64 (n : Int)] 3) = WB := ⟨_, rfl⟩
                              try rw [hWB]
                              have hbB : Below W7.heap.size W7 WB := by rw [← hWB]; exact hbA.alloc hbA.size _
                              have hcB : WB.cell? ⟨WA.heap.size, 0, none⟩ = some (.int .i64 (n : Int)) := by rw [← hWB]; exact (cell_of_row (WA.alloc (.cells #[.int .i64 (n : Int)] 3)) WA.heap.size 0 #[.int .i64 (n : Int)] 3 (0, 0) (World.alloc_heap_new _ _)).trans rfl
                              have hsB : WB.heap.size = WA.heap.size + 1 := by rw [← hWB]; simp
                              have hoB : WB.ownsRow W7.heap.size 3 1 (.slice (some ⟨W7.heap.size, 0, none⟩) 0 0) 0 [] := by rw [← hWB]; exact own_keep hoA (fun g' hg' => Below.heap_alloc _ _ _ (hoA.lt g' hg').2)
                              refine hK.out _ _ (Hkeep.out _ hbB).1 (fun hHeld => ?_)
                              clear hK K
                              (try simp only [Act.put, List.setIfInBounds_toArray, List.set_cons_zero, List.set_cons_succ])
                              clear hWB hHeld
                              refine wpAnyH_ready (rs := [8]) (by kernel_rfl) (by simp) ?_
                              refine AllReadyH.cons rfl (fun K hK => ?_) AllReadyH.nil
                              have hle8 : W7.heap.size ≤ WB.heap.size := by have := hbB.size; omega
                              refine step_any WB rfl (.tmp 153) (.tmp 157) 53 3 1 8 _ i0 rfl Tryz.underlying53 hi0 hz0 hz1 hz2 rfl (by decide) W7.heap.size (.slice (some ⟨W7.heap.size, 0, none⟩) 0 0) (0) _ (some ⟨g4, 0, none⟩) k c4 ((L.take k).map (Value.int .i64)) (by simp [Act.eval, Act.put]) hoB (by simp [Act.eval, Act.put]) (fun e => by cases e) (by simp; omega) (take_news (own_keep HL7.out (fun g' hg' => hbB.block g' (HL7.out.lt g' hg').2))) (by intro u hu; obtain ⟨z, _, rfl⟩ := List.mem_map.1 hu; rfl) (by simp only [maxLen]; omega) (by omega) (by omega) ?_
                              intro v8 w8 ho8 hg8 hat8
                              have hb8 : Below W7.heap.size W7 w8 := FTops.grown_below hbB hg8 hoB (by have := HA.out.2; have := HA.out.1.size; (try have := hbB.size); omega)
                              have hc8 : w8.cell? ⟨WA.heap.size, 0, none⟩ = some (.int .i64 (n : Int)) := (OwnF.cell_same (hg8.block WA.heap.size (by have := HA.out.2; have := HA.out.1.size; (try have := hbB.size); first | omega | (rw [hsB]; omega)) (by intro e; injection e with e; have e2 : WA.heap.size = W7.heap.size := e; have := HA.out.2; have := HA.out.1.size; (try have := hbB.size); omega)) 0).trans hcB
                              have hs8 := hg8.size
                              obtain ⟨A8, n8, c8, rfl⟩ := Build.own_form ho8
                              refine hK.out _ _ (Hkeep.out _ hb8).1 (fun hHeld => ?_)
                              clear hK K
                              (try simp only [Act.put, List.setIfInBounds_toArray, List.set_cons_zero, List.set_cons_succ])
                              clear hg8 hat8 hle8 hHeld
                              refine wpAnyH_ready (rs := [12]) (by kernel_rfl) (by simp) ?_
                              refine AllReadyH.cons rfl (fun K hK => ?_) AllReadyH.nil
                              have hle12 : W7.heap.size ≤ w8.heap.size := by have := hb8.size; (try have := HA.out.2); (try have := HA.out.1.size); (try have := hbB.size); (try have := hsB); (try have := hs8); omega
                              refine step_any w8 rfl (.tmp 158) (.tmp 161) 53 3 1 8 _ i0 rfl Tryz.underlying53 hi0 hz0 hz1 hz2 rfl (by decide) W7.heap.size (.slice A8 n8 c8) (0 + k) _ (some ⟨WA.heap.size, 0, none⟩) 1 1 ([.int .i64 (n : Int)]) (by simp [Act.eval, Act.put]) ho8 (by simp [Act.eval, Act.put]) (fun e => by cases e) (by rfl) (one_news hc8) (by simp [Value.oneCell']) (by simp only [maxLen]; omega) (by omega) (by exact hle12) ?_
                              intro v12 w12 ho12 hg12 hat12
                              have hb12 : Below W7.heap.size W7 w12 := FTops.grown_below hb8 hg12 ho8 (by (try have := HA.out.1.size); (try have := HA.out.2); (try have := hbB.size); omega)
                              have hle17 : W7.heap.size ≤ w12.heap.size := by have := hg12.size; omega
                              obtain ⟨A12, n12, c12, rfl⟩ := Build.own_form ho12
                              refine hK.out _ _ (Hkeep.out _ hb12).1 (fun hHeld => ?_)
                              clear hK K
                              (try simp only [Act.put, List.setIfInBounds_toArray, List.set_cons_zero, List.set_cons_succ])
                              clear hg12 hat12 hle12 hHeld
                              refine wpAnyH_ready (rs := [17]) (by kernel_rfl) (by simp) ?_
                              refine AllReadyH.cons rfl (fun K hK => ?_) AllReadyH.nil
                              refine step_any w12 rfl (.tmp 162) (.tmp 166) 53 3 1 8 _ i0 rfl Tryz.underlying53 hi0 hz0 hz1 hz2 rfl (by decide) W7.heap.size (.slice A12 n12 c12) (0 + k + 1) _ (some ⟨g4, k, none⟩) (L.length - k) (c4 - k) ((L.drop k).map (Value.int .i64)) (by simp [Act.eval, Act.put]) ho12 (by simp [Act.eval, Act.put]) (fun e => by cases e) (by simp) (drop_news (own_keep HL7.out (fun g' hg' => hb12.block g' (HL7.out.lt g' hg').2))) (by intro u hu; obtain ⟨z, _, rfl⟩ := List.mem_map.1 hu; rfl) (by simp only [maxLen]; omega) (by omega) (by exact hle17) ?_
                              intro v17 w17 ho17 hg17 hat17
                              have hb17 : Below W7.heap.size W7 w17 := FTops.grown_below hb12 hg17 ho12 (by (try have := HA.out.1.size); (try have := HA.out.2); (try have := hbB.size); omega)
                              obtain ⟨A17, n17, c17, rfl⟩ := Build.own_form ho17
                              obtain ⟨hk1, ⟨uc, hk2⟩, hk3⟩ := Hkeep.out w17 hb17
                              refine hK.out _ _ (Hkeep.out _ hb17).1 (fun hHeld => ?_)
                              clear hK K
                              (try simp only [Act.put, List.setIfInBounds_toArray, List.set_cons_zero, List.set_cons_succ])
                              refine' wpAnyH_take (i := 18) (v := ?vzb18) rfl (by kernel_rfl) (by kernel_rfl) (by kernel_rfl) (fun _ _ _ h => h) (Or.inl ⟨by rfl, ?hyzb18⟩) (by assumption) ?restzb18
                              case hyzb18 => (intro w hSw; (try dsimp only at hSw); go_simp; (try with_reducible rfl))
                              (try simp only [Act.put, List.setIfInBounds_toArray, List.set_cons_zero, List.set_cons_succ])
                              refine' wpAnyH_take (i := 19) (v := ?vzb19) rfl (by kernel_rfl) (by kernel_rfl) (by kernel_rfl) (fun _ _ _ h => h) (Or.inl ⟨by rfl, ?hyzb19⟩) (by assumption) ?restzb19
                              case hyzb19 => (intro w hSw; (try dsimp only at hSw); go_simp; (try with_reducible rfl))
                              (try simp only [Act.put, List.setIfInBounds_toArray, List.set_cons_zero, List.set_cons_succ])
                              refine wpAnyH_ready (rs := [20]) (by kernel_rfl) (by simp) ?_
                              refine AllReadyH.cons rfl (fun K hK => ?_) AllReadyH.nil
                              go_simp
                              refine hK.out _ _ ⟨(OwnF.cell_same (Below.heap_setCell _ _ _ _ hbg1) _).trans hk1.1, (OwnF.cell_same (Below.heap_setCell _ _ _ _ hbg1) _).trans hk1.2.1, (OwnF.cell_same (Below.heap_setCell _ _ _ _ hbg1) _).trans hk1.2.2⟩ (fun hHeld => ?_)
                              clear hK K
                              (try simp only [Act.put, List.setIfInBounds_toArray, List.set_cons_zero, List.set_cons_succ])
                              refine wpAnyH_done (by kernel_rfl) ?_ _
                              have hend := Hfin.out w17 (.slice A17 n17 c17) (insertL L k (n : Int)) hb17 (ins_rd ho17 (by rw [Work.insertL_length _ (by omega)]; omega) (by unfold insertL; simp) (by have := hgW7; (try have := hbB.size); omega) (Work.insertL_mem HwfL.out Hwfn.out)) rfl
                              have Hend := Lib.hid hend
                              clear hend hk1 hk2 hk3 hHeld
                              go_wp2_with fail
                              go_ret2
                              exact Hend.out
                          · go_simp
                            obtain ⟨WB, hWB⟩ : ∃ WB, (W7.alloc (.cells #[.int .i64 (n : Int)] 3)).drew = WB := ⟨_, rfl⟩
                            try rw [hWB]
                            have hbB : Below W7.heap.size W7 WB := by rw [← hWB]; exact ((Below.refl _ _).alloc (Nat.le_refl _) _).drew
                            have hcB : WB.cell? ⟨W7.heap.size, 0, none⟩ = some (.int .i64 (n : Int)) := by rw [← hWB]; exact (cell_of_row ((W7.alloc (.cells #[.int .i64 (n : Int)] 3)).drew) W7.heap.size 0 #[.int .i64 (n : Int)] 3 (0, 0) (World.alloc_heap_new _ _)).trans rfl
                            have hsB : WB.heap.size = W7.heap.size + 1 := by rw [← hWB]; simp [World.drew]
                            refine hK.out _ _ (Hkeep.out _ hbB).1 (fun hHeld => ?_)
                            clear hK K
                            (try simp only [Act.put, List.setIfInBounds_toArray, List.set_cons_zero, List.set_cons_succ])
                            clear hWB hHeld
                            refine wpAnyH_ready (rs := [3]) (by kernel_rfl) (by simp) ?_
                            refine AllReadyH.cons rfl (fun K hK => ?_) AllReadyH.nil
                            go_simp
                            obtain ⟨WA, hWA⟩ : ∃ WA, WB.alloc (.cells #[] 3) = WA := ⟨_, rfl⟩
                            try rw [hWA]
                            have hbA : Below W7.heap.size W7 WA := by rw [← hWA]; exact hbB.alloc hbB.size _
                            have hoA : WA.ownsRow WB.heap.size 3 1 (.slice (some ⟨WB.heap.size, 0, none⟩) 0 0) 0 [] := by rw [← hWA]; exact made_ints WB
                            have hcA : WA.cell? ⟨W7.heap.size, 0, none⟩ = some (.int .i64 (n : Int)) := by rw [← hWA]; exact cell_alloc hcB _
                            have hsA : WA.heap.size = WB.heap.size + 1 := by rw [← hWA]; simp
                            have HA := Lib.hid (And.intro hbA hsA)
                            refine hK.out _ _ (Hkeep.out _ hbA).1 (fun hHeld => ?_)
                            clear hK K
                            (try simp only [Act.put, List.setIfInBounds_toArray, List.set_cons_zero, List.set_cons_succ])
                            clear hWA hsA hHeld
                            refine wpAnyH_ready (rs := [8]) (by kernel_rfl) (by simp) ?_
                            refine AllReadyH.cons rfl (fun K hK => ?_) AllReadyH.nil
                            have hle8 : WB.heap.size ≤ WA.heap.size := by have := hbA.size; have := HA.out.2; omega
                            refine step_any WA rfl (.tmp 153) (.tmp 157) 53 3 1 8 _ i0 rfl Tryz.underlying53 hi0 hz0 hz1 hz2 rfl (by decide) WB.heap.size (.slice (some ⟨WB.heap.size, 0, none⟩) 0 0) (0) _ (some ⟨g4, 0, none⟩) k c4 ((L.take k).map (Value.int .i64)) (by simp [Act.eval, Act.put]) hoA (by simp [Act.eval, Act.put]) (fun e => by cases e) (by simp; omega) (take_news (own_keep HL7.out (fun g' hg' => hbA.block g' (HL7.out.lt g' hg').2))) (by intro u hu; obtain ⟨z, _, rfl⟩ := List.mem_map.1 hu; rfl) (by simp only [maxLen]; omega) (by omega) (by omega) ?_
                            intro v8 w8 ho8 hg8 hat8
                            have hb8 : Below W7.heap.size W7 w8 := FTops.grown_below hbA hg8 hoA (by have := HA.out.2; have := HA.out.1.size; (try have := hbB.size); omega)
                            have hc8 : w8.cell? ⟨W7.heap.size, 0, none⟩ = some (.int .i64 (n : Int)) := (OwnF.cell_same (hg8.block W7.heap.size (by have := HA.out.2; have := HA.out.1.size; (try have := hbB.size); first | omega | (rw [hsB]; omega)) (by intro e; injection e with e; have e2 : W7.heap.size = WB.heap.size := e; have := HA.out.2; have := HA.out.1.size; (try have := hbB.size); omega)) 0).trans hcA
                            have hs8 := hg8.size
                            obtain ⟨A8, n8, c8, rfl⟩ := Build.own_form ho8
                            refine hK.out _ _ (Hkeep.out _ hb8).1 (fun hHeld => ?_)
                            clear hK K
                            (try simp only [Act.put, List.setIfInBounds_toArray, List.set_cons_zero, List.set_cons_succ])
                            clear hg8 hat8 hle8 hHeld
                            refine wpAnyH_ready (rs := [12]) (by kernel_rfl) (by simp) ?_
                            refine AllReadyH.cons rfl (fun K hK => ?_) AllReadyH.nil
                            have hle12 : WB.heap.size ≤ w8.heap.size := by have := hb8.size; (try have := HA.out.2); (try have := HA.out.1.size); (try have := hbB.size); (try have := hsB); (try have := hs8); omega
                            refine step_any w8 rfl (.tmp 158) (.tmp 161) 53 3 1 8 _ i0 rfl Tryz.underlying53 hi0 hz0 hz1 hz2 rfl (by decide) WB.heap.size (.slice A8 n8 c8) (0 + k) _ (some ⟨W7.heap.size, 0, none⟩) 1 1 ([.int .i64 (n : Int)]) (by simp [Act.eval, Act.put]) ho8 (by simp [Act.eval, Act.put]) (fun e => by cases e) (by rfl) (one_news hc8) (by simp [Value.oneCell']) (by simp only [maxLen]; omega) (by omega) (by exact hle12) ?_
                            intro v12 w12 ho12 hg12 hat12
                            have hb12 : Below W7.heap.size W7 w12 := FTops.grown_below hb8 hg12 ho8 (by (try have := HA.out.1.size); (try have := HA.out.2); (try have := hbB.size); omega)
                            have hle17 : WB.heap.size ≤ w12.heap.size := by have := hg12.size; omega
                            obtain ⟨A12, n12, c12, rfl⟩ := Build.own_form ho12
                            refine hK.out _ _ (Hkeep.out _ hb12).1 (fun hHeld => ?_)
                            clear hK K
                            (try simp only [Act.put, List.setIfInBounds_toArray, List.set_cons_zero, List.set_cons_succ])
                            clear hg12 hat12 hle12 hHeld
                            refine wpAnyH_ready (rs := [17]) (by kernel_rfl) (by simp) ?_
                            refine AllReadyH.cons rfl (fun K hK => ?_) AllReadyH.nil
                            refine step_any w12 rfl (.tmp 162) (.tmp 166) 53 3 1 8 _ i0 rfl Tryz.underlying53 hi0 hz0 hz1 hz2 rfl (by decide) WB.heap.size (.slice A12 n12 c12) (0 + k + 1) _ (some ⟨g4, k, none⟩) (L.length - k) (c4 - k) ((L.drop k).map (Value.int .i64)) (by simp [Act.eval, Act.put]) ho12 (by simp [Act.eval, Act.put]) (fun e => by cases e) (by simp) (drop_news (own_keep HL7.out (fun g' hg' => hb12.block g' (HL7.out.lt g' hg').2))) (by intro u hu; obtain ⟨z, _, rfl⟩ := List.mem_map.1 hu; rfl) (by simp only [maxLen]; omega) (by omega) (by exact hle17) ?_
                            intro v17 w17 ho17 hg17 hat17
                            have hb17 : Below W7.heap.size W7 w17 := FTops.grown_below hb12 hg17 ho12 (by (try have := HA.out.1.size); (try have := HA.out.2); (try have := hbB.size); omega)
                            obtain ⟨A17, n17, c17, rfl⟩ := Build.own_form ho17
                            obtain ⟨hk1, ⟨uc, hk2⟩, hk3⟩ := Hkeep.out w17 hb17
                            refine hK.out _ _ (Hkeep.out _ hb17).1 (fun hHeld => ?_)
                            clear hK K
                            (try simp only [Act.put, List.setIfInBounds_toArray, List.set_cons_zero, List.set_cons_succ])
                            refine' wpAnyH_take (i := 18) (v := ?vzc18) rfl (by kernel_rfl) (by kernel_rfl) (by kernel_rfl) (fun _ _ _ h => h) (Or.inl ⟨by rfl, ?hyzc18⟩) (by assumption) ?restzc18
                            case hyzc18 => (intro w hSw; (try dsimp only at hSw); go_simp; (try with_reducible rfl))
                            (try simp only [Act.put, List.setIfInBounds_toArray, List.set_cons_zero, List.set_cons_succ])
                            refine' wpAnyH_take (i := 19) (v := ?vzc19) rfl (by kernel_rfl) (by kernel_rfl) (by kernel_rfl) (fun _ _ _ h => h) (Or.inl ⟨by rfl, ?hyzc19⟩) (by assumption) ?restzc19
                            case hyzc19 => (intro w hSw; (try dsimp only at hSw); go_simp; (try with_reducible rfl))
                            (try simp only [Act.put, List.setIfInBounds_toArray, List.set_cons_zero, List.set_cons_succ])
                            refine wpAnyH_ready (rs := [20]) (by kernel_rfl) (by simp) ?_
                            refine AllReadyH.cons rfl (fun K hK => ?_) AllReadyH.nil
                            go_simp
                            refine hK.out _ _ ⟨(OwnF.cell_same (Below.heap_setCell _ _ _ _ hbg1) _).trans hk1.1, (OwnF.cell_same (Below.heap_setCell _ _ _ _ hbg1) _).trans hk1.2.1, (OwnF.cell_same (Below.heap_setCell _ _ _ _ hbg1) _).trans hk1.2.2⟩ (fun hHeld => ?_)
                            clear hK K
                            (try simp only [Act.put, List.setIfInBounds_toArray, List.set_cons_zero, List.set_cons_succ])
                            refine wpAnyH_done (by kernel_rfl) ?_ _
                            have hend := Hfin.out w17 (.slice A17 n17 c17) (insertL L k (n : Int)) hb17 (ins_rd ho17 (by rw [Work.insertL_length _ (by omega)]; omega) (by unfold insertL; simp) (by have := hgW7; (try have := hbB.size); omega) (Work.insertL_mem HwfL.out Hwfn.out)) rfl
                            have Hend := Lib.hid hend
                            clear hend hk1 hk2 hk3 hHeld
                            go_wp2_with fail
                            go_ret2
                            exact Hend.out
                  · have hE := HE.out
                    rw [decide_eq_false hf, if_neg (by decide)] at hE
                    have hF := Herr.out 73 hE (by decide)
                    have HE2 := Lib.hid hE; have HF := Lib.hid hF
                    clear hE hF HE
                    by_cases h0 : a < 0
                    · clear hf
                      go_wp2_with fail
                      go_ret2
                      exact ⟨_, by rw [HE2.out]; rfl, by rw [HF.out]; exact Hrf.out _ Hb4.out, bthen HB0.out (bthen HB2.out Hb4.out)⟩
                    · have h1 : (L.length : Int) < a := by omega
                      clear hf
                      go_wp2_with fail
                      go_ret2
                      exact ⟨_, by rw [HE2.out]; rfl, by rw [HF.out]; exact Hrf.out _ Hb4.out, bthen HB0.out (bthen HB2.out Hb4.out)⟩
      · have hE := HE0.out
        rw [hlk (.inr (.inl (by omega))), if_neg (by decide)] at hE
        have hF := Herr.out 71 hE (by decide)
        have HE := Lib.hid hE; have HF := Lib.hid hF
        have hq : ((n : Int) == 0) = false := by rw [beq_eq_false_iff_ne]; omega
        have hq3 : 1 < f[t].kind := by omega
        clear hE hF hlk hn0' hk1
        go_enter Tryz.func63, Tryz.ntmps63
        go_upto_region 1 with fail
        rw [HW0.out]
        go_upto_region 4 with fail
        rw [HW1.out]
        go_upto_region 5 with fail
        rw [HW2.out]
        go_wp2_with fail
        go_ret2
        exact ⟨_, by rw [HE.out]; rfl, by rw [HF.out]; exact Hrd.out _ (bthen HB0.out HB2.out), bthen HB0.out HB2.out⟩
    · rw [if_neg ht] at hE
      have hF := Herr.out 70 hE (by decide)
      have HE := Lib.hid hE; have HF := Lib.hid hF
      rw [node_iff] at ht
      clear hE hF hm hmo hid hn
      by_cases h0 : o.to < 0
      · clear ht
        go_enter Tryz.func63, Tryz.ntmps63
        go_upto_region 1 with fail
        rw [HW0.out]
        go_wp2_with fail
        go_ret2
        exact ⟨_, by rw [HE.out]; rfl, by rw [HF.out]; exact Hrd.out _ HB0.out, HB0.out⟩
      · have h1 : (f.length : Int) ≤ o.to := by omega
        clear ht
        go_enter Tryz.func63, Tryz.ntmps63
        go_upto_region 1 with fail
        rw [HW0.out]
        go_wp2_with fail
        go_ret2
        exact ⟨_, by rw [HE.out]; rfl, by rw [HF.out]; exact Hrd.out _ HB0.out, HB0.out⟩
  · rw [if_neg hn] at hE
    have hF := Herr.out 70 hE (by decide)
    have HE := Lib.hid hE; have HF := Lib.hid hF
    rw [node_iff] at hn
    clear hE hF hm hmo
    by_cases h0 : o.id < 0
    · clear hn
      go_enter Tryz.func63, Tryz.ntmps63
      go_upto_region 1 with fail
      rw [HW0.out]
      go_wp2_with fail
      go_ret2
      exact ⟨_, by rw [HE.out]; rfl, by rw [HF.out]; exact Hrd.out _ HB0.out, HB0.out⟩
    · have h1 : (f.length : Int) ≤ o.id := by omega
      clear hn
      go_enter Tryz.func63, Tryz.ntmps63
      go_upto_region 1 with fail
      rw [HW0.out]
      go_wp2_with fail
      go_ret2
      exact ⟨_, by rw [HE.out]; rfl, by rw [HF.out]; exact Hrd.out _ HB0.out, HB0.out⟩
end Go.Proofs.YthdenkkllpkplaaGreat.R7
end
