/- forest.Print's closure kids. -/
import Derived.Test.YtbbompmpecblgaaPrInv
namespace Go.Proofs.Ytbbompmpecblgaa.Pr
open Go Go.RowKit Go.Proofs.Ytbbompmpecblgaa.Seq Go.Proofs.Ytbbompmpecblgaa.WS Go.Proofs.Ytbbompmpecblgaa.FS Go.Proofs.Ytbbompmpecblgaa.Mem Go.Proofs.Ytbbompmpecblgaa.Rd Go.Proofs.Ytbbompmpecblgaa.Shapes Go.Proofs.Ytbbompmpecblgaa.Build Go.Proofs.Ytbbompmpecblgaa.Repl Go.Proofs.Ytbbompmpecblgaa.ReplB Go.Proofs.Ytbbompmpecblgaa.ReplR Go.Proofs.Ytbbompmpecblgaa.ReplC Go.Proofs.Ytbbompmpecblgaa.FFam
set_option linter.unusedVariables false
set_option linter.unusedSimpArgs false

abbrev nodeV (n : Nd) (Aa : Option Addr) (ca : Nat) (Ak : Option Addr) (ck : Nat) : Value := .agg #[.int .i64 n.kind, .string n.name, .string n.text, .slice Aa n.attrs.length ca, .int .i64 n.parent, .slice Ak n.kids.length ck]
def DonePr (L : Lay) (l p : List UInt8) (v : Value) (w : World) (e : Ending) (w' : World) : Prop := e = .returned (.tuple #[]) ∧ PPost L l p v w w'
/-- What put answers at node i. -/
def PutOK (L : Lay) (i : Int) : Prop := ∀ (l : List UInt8) (v : Value) (Fs : Nat → Prop) (w : World) (Aa : Option Addr) (ca : Nat) (Ak : Option Addr) (ck : Nat), PInv L l v Fs w →
  RdL attrE 2 L.B w (.slice Aa (at_ L.f i).attrs.length ca) (at_ L.f i).attrs → RdL (intE .i64) 1 L.B w (.slice Ak (at_ L.f i).kids.length ck) (at_ L.f i).kids → l.length + (printL L.f i).length ≤ 1000000000 →
  Calls Try.prog 70 #[nodeV (at_ L.f i) Aa ca Ak ck, .pointer (some ⟨L.b, 0, none⟩), .pointer (some ⟨L.bt, 0, none⟩), .pointer (some ⟨L.bk, 0, none⟩), .pointer (some ⟨L.bv, 0, none⟩)] w (DonePr L l (printL L.f i) v w)
theorem rd_off {L : Lay} {l : List UInt8} {v : Value} {Fs : Nat → Prop} {w w' : World} {α : Type} {E : Elem α} {sz : Nat} {u : Value} {xs : List α} (hE : E.Keeps) (h : PInv L l v Fs w) (ok : L.OK) (hr : RdL E sz L.B w u xs) (ho : Off (YP L v) w w') : RdL E sz L.B w' u xs :=
  hr.keep hE (ho.toBelow (by have := h.sz; have := ok.lt.1; have := ok.ge.1; omega) (h.lo ok)) (Nat.le_refl _)
theorem kids_step {L : Lay} {l : List UInt8} {v v' v5 : Value} {Fs5 : Nat → Prop} {w wr W w5 : World} {KS : List Int} {k : Nat} {u : List UInt8} (hO : Hid (Off (YP L v) w wr)) (hG : Hid (Grew w v v'))
    (Hfm : Hid ((KS.take (k + 1)).flatMap (printL L.f) = (KS.take k).flatMap (printL L.f) ++ u)) (HI5 : Hid (PInv L (l ++ (KS.take k).flatMap (printL L.f) ++ u) v5 Fs5 w5)) (HO5 : Hid (Off (YP L v') W w5)) (HG5 : Hid (Grew W v' v5)) (hW : W = wr ∨ W = wr.drew) (hlt : k < KS.length) :
    ∃ (k_1 : Nat) (v' : Value) (Fs' : Nat → Prop), k_1 ≤ KS.length ∧ Value.int .i64 ((k : Int) + 1) = .int .i64 k_1 ∧ Hid (PInv L (l ++ (KS.take k_1).flatMap (printL L.f)) v' Fs' w5) ∧ Hid (Off (YP L v) w w5) ∧ Hid (Grew w v v') := by
  have hO' : Off (YP L v) w W := by rcases hW with rfl | rfl; exact hO.out; exact hO.out.trans (Off.drew _ _)
  refine ⟨k + 1, v5, Fs5, by omega, by go_num, Lib.hid (by rw [Hfm.out, ← List.append_assoc]; exact HI5.out), Lib.hid (hO'.trans' HO5.out ?_), Lib.hid (hG.out.trans HG5.out hO'.size)⟩
  intro b hb
  rcases hb with hb | hb | hb | hb
  · exact .inl (.inl hb)
  · exact .inl (.inr (.inl hb))
  · exact .inl (.inr (.inr (.inl hb)))
  · rcases hG.out with g | ⟨x, g1, g2⟩
    · exact .inl (.inr (.inr (.inr (by rw [← g]; exact hb))))
    · rw [g1] at hb; injection hb with hb; subst hb; exact .inr g2
set_option maxRecDepth 100000 in
set_option maxHeartbeats 4000000 in
theorem kids_calls (L : Lay) (ok : L.OK) (i : Int) (hk : ∀ k ∈ (at_ L.f i).kids, isNode L.f k = true ∧ PutOK L k) (l : List UInt8) (v : Value) (Fs : Nat → Prop) (w : World) (Aa : Option Addr) (ca : Nat) (Ak : Option Addr) (ck : Nat) (h : PInv L l v Fs w)
    (hrk : RdL (intE .i64) 1 L.B w (.slice Ak (at_ L.f i).kids.length ck) (at_ L.f i).kids) (hl : l.length + ((at_ L.f i).kids.flatMap (printL L.f)).length ≤ 1000000000) :
    Calls Try.prog 69 #[nodeV (at_ L.f i) Aa ca Ak ck, .pointer (some ⟨L.bp, 0, none⟩), .pointer (some ⟨L.bF, 0, none⟩)] w (DonePr L l ((at_ L.f i).kids.flatMap (printL L.f)) v w) := by
  have hlen := hrk.len
  simp only [maxLen] at hlen
  have hrd0 := fun w' (ho : Off (YP L v) w w') => rd_off (intE_keeps _) h ok hrk ho
  have Hrd := Lib.hid hrd0; have H := Lib.hid h; have Hk := Lib.hid hk; have Hl := Lib.hid hl; have Hok := Lib.hid ok
  clear hrd0 h hk hl ok hrk
  obtain ⟨KS, hKS⟩ : ∃ KS, KS = (at_ L.f i).kids := ⟨_, rfl⟩
  rw [← hKS] at Hrd Hk Hl
  rw [← hKS] at hlen
  unfold nodeV
  rw [← hKS]
  obtain ⟨n0, hn0⟩ : ∃ n0, n0 = at_ L.f i := ⟨_, rfl⟩
  rw [← hn0]
  clear hKS hn0
  go_enter Try.func69, Try.ntmps69
  go_wp2_with fail
  obtain ⟨W0, hW0⟩ : ∃ W0, w.alloc (.cells #[.int .i64 n0.kind, .string n0.name, .string n0.text, .slice Aa n0.attrs.length ca, .int .i64 n0.parent, .slice Ak KS.length ck] 45) = W0 := ⟨_, rfl⟩
  have hI0 : PInv L l v Fs W0 := by rw [← hW0]; exact H.out.alloc Hok.out _
  have hO0 : Off (YP L v) w W0 := by rw [← hW0]; exact Off.alloc _ _ _
  rw [hW0]
  have HI0 := Lib.hid hI0; have HO0 := Lib.hid hO0
  clear hI0 hO0 hW0
  go_loopw [9] (fun ix wr => ∃ (k : Nat) (v' : Value) (Fs' : Nat → Prop), k ≤ KS.length ∧ ix = .int .i64 k ∧ Hid (PInv L (l ++ (KS.take k).flatMap (printL L.f)) v' Fs' wr) ∧ Hid (Off (YP L v) w wr) ∧ Hid (Grew w v v')) (fun ix _ => KS.length - (intOf ix).toNat)
  case atStart => exact ⟨0, v, Fs, Nat.zero_le _, rfl, Lib.hid (by simpa using HI0.out), HO0, Lib.hid (Grew.refl _ _)⟩
  case round =>
    obtain ⟨k, v', Fs', hkl, rfl, hI, hO, hG⟩ := hrel
    by_cases hlt : k < KS.length
    · obtain ⟨bk, ok', rfl, hbkB, e1, _⟩ := intE_at (Hrd.out wr hO.out) hlt
      obtain ⟨hn, hput⟩ := Hk.out KS[k] (List.getElem_mem _)
      have htk : KS.take (k + 1) = KS.take k ++ [KS[k]] := List.take_succ_eq_append_getElem hlt
      have hpl : (l ++ (KS.take k).flatMap (printL L.f)).length + (printL L.f KS[k]).length ≤ 1000000000 := by
        have h1 := Hl.out
        conv at h1 => lhs; rw [← List.take_append_drop k KS, List.drop_eq_getElem_cons hlt]
        rw [List.flatMap_append, List.flatMap_cons, List.length_append, List.length_append] at h1
        rw [List.length_append]
        omega
      have hfm : (KS.take (k + 1)).flatMap (printL L.f) = (KS.take k).flatMap (printL L.f) ++ printL L.f KS[k] := by rw [htk, List.flatMap_append]; simp
      generalize KS[k] = x at *
      obtain ⟨j, rfl, hj⟩ := node_nat hn
      have c1 := cell_of hI.out.vp
      have c2 := cell_of hI.out.vF
      obtain ⟨b1, o1, Aa1, ca1, Ak1, ck1, hA, hbl, g0, g1, g2, g3, g4, g5, ra, rk, la, lca, lk, lck, m1, m2, m3, m4⟩ := node_at hI.out.rd hj
      have hLc : L.f.length ≤ L.c ∧ L.f.length ≤ 9223372036854775807 := by
        obtain ⟨_, _, he, p1, p2, _⟩ := hI.out.rd.form
        injection he with _ _ he
        subst he
        exact ⟨p1, by simp only [maxLen] at p2; omega⟩
      rw [hA] at c2
      rw [← at_nat hj] at ra rk g0 g1 g2 g3 g4 g5
      have hp : ∀ W, (W = wr ∨ W = wr.drew) → Calls Try.prog 70 #[nodeV (at_ L.f j) Aa1 ca1 Ak1 ck1, .pointer (some ⟨L.b, 0, none⟩), .pointer (some ⟨L.bt, 0, none⟩), .pointer (some ⟨L.bk, 0, none⟩), .pointer (some ⟨L.bv, 0, none⟩)] W (DonePr L (l ++ (KS.take k).flatMap (printL L.f)) (printL L.f j) v' W) := by
        rintro W (rfl | rfl)
        · exact hput _ _ _ _ _ _ _ _ hI.out ra rk hpl
        · exact hput _ _ _ _ _ _ _ _ (hI.out.drew Hok.out) (rd_off attrE_keeps hI.out Hok.out ra (Off.drew _ _)) (rd_off (intE_keeps _) hI.out Hok.out rk (Off.drew _ _)) hpl
      unfold nodeV at hp
      have hjn : (j : Int) < L.f.length := by omega
      have Hp := Lib.hid hp; have Hfm := Lib.hid hfm
      generalize at_ L.f j = n1 at *
      clear hp hfm hput hpl htk ra rk la lca lk lck m1 m2 m3 m4 hA hn
      go_wp2_with fail
      go_region_with (go_at_call 70; (first | with_reducible refine (Hp.out _ (.inl rfl)).mono ?_ | with_reducible refine (Hp.out _ (.inr rfl)).mono ?_); go_loud (rintro e w5 ⟨rfl, v5, Fs5, hI5, hO5, hG5⟩; have HI5 := Lib.hid hI5; have HO5 := Lib.hid hO5; have HG5 := Lib.hid hG5; clear hI5 hO5 hG5))
      all_goals go_wp2_with fail
      all_goals
        go_roundw
        case rel =>
          first
            | exact kids_step hO hG Hfm HI5 HO5 HG5 (.inl rfl) hlt
            | exact kids_step hO hG Hfm HI5 HO5 HG5 (.inr rfl) hlt
        case measure => simp [intOf]; omega
    · obtain rfl : k = KS.length := by omega
      rw [List.take_length] at hI
      clear hlt
      go_wp2_with fail
      go_end0
      exact ⟨rfl, v', Fs', hI.out, hO.out, hG.out⟩
end Go.Proofs.Ytbbompmpecblgaa.Pr
