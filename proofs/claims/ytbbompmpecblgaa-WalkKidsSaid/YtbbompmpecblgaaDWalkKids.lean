/- The law WalkKids answers true at every input, and each argument reads afterwards as it read before; no condition. -/
import Derived.Maps.AppendAt
import Derived.Test.YtbbompmpecblgaaRows
import Derived.WalkKit
import Derived.ProofKit
import Derived.OpenShut
import Derived.ShutString
import Derived.ChangeOld
import Derived.Below
import Derived.SizedLaws
import Derived.Test.YtbbompmpecblgaaC20
section
/- WalkKids. -/
namespace Go.Proofs.Ytbbompmpecblgaa.LWKid
open Go Go.RowKit Go.Proofs.Ytbbompmpecblgaa.Seq Go.Proofs.Ytbbompmpecblgaa.WS Go.Proofs.Ytbbompmpecblgaa.FS Go.Proofs.Ytbbompmpecblgaa.Mem Go.Proofs.Ytbbompmpecblgaa.Rd Go.Proofs.Ytbbompmpecblgaa.Shapes Go.Proofs.Ytbbompmpecblgaa.Word Go.Proofs.Ytbbompmpecblgaa.FFam Go.Proofs.Ytbbompmpecblgaa.Grown Go.Proofs.Ytbbompmpecblgaa.Wk
set_option linter.unusedVariables false
set_option linter.unusedSimpArgs false

set_option maxRecDepth 100000 in
theorem pl_cat {ops : Array Oper} {rest : List Oper} {o : Oper} {a : Act} {Q : Exit → Act → World → Prop} (W : World) (hgd : o.guard = none) (s x : Operand)
    (ho : o.op = .call { callee := .builtin .append, args := #[s, x], argTypes := #[40, 40] }) (B : Nat) (v : Value) (M : List Int) (hs : a.eval s = v) (hown : W.ownsRow B 3 1 v M.length (M.map (Value.int .i64)))
    (A : Option Addr) (c : Nat) (L : List Int) (hx : a.eval x = .slice A L.length c) (hr : RdL (intE .i64) 1 W.heap.size W (.slice A L.length c) L) (h0 : 0 < L.length) (hlen : M.length + L.length ≤ 1000) (hB : B ≤ W.heap.size)
    (h : ∀ v' w1, w1.ownsRow B 3 1 v' (M ++ L).length ((M ++ L).map (Value.int .i64)) → Below B W w1 → wpList Try.prog ops Q rest (a.put o.dst v') w1) :
    wpList Try.prog ops Q (o :: rest) a W := by
  obtain ⟨i0, hi, hz0, hz1, hz2⟩ := info_parts info_int
  obtain ⟨b, off, rfl, _, _, _⟩ := intE_at hr h0
  have hcell : ∀ j (hj : j < L.length), W.cell? ⟨b, off + j, none⟩ = some (.int .i64 L[j]) := fun j hj => by
    obtain ⟨b', o', he, _, q, _⟩ := intE_at hr hj
    injection he with he
    injection he with he he' _
    subst he he'
    exact q
  refine wpList_append_own_at (w := W) hgd s x 40 ho B 3 i0 _ 1 8 Try.underlying40 hi hz0 hz1 hz2 rfl (by decide) v M.length (M.map (Value.int .i64)) hs hown ⟨b, off, none⟩ L.length c (L.map (Value.int .i64)) hx (by simp) (fun j u hj => ?_) (fun u hu => ?_) (by simp only [maxLen]; omega) (by omega) hB ?_
  · rw [Addr.add_lit]
    rw [List.getElem?_map] at hj
    obtain ⟨y, hy, rfl⟩ := Option.map_eq_some_iff.1 hj
    obtain ⟨hjl, rfl⟩ := List.getElem?_eq_some_iff.1 hy
    exact hcell j hjl
  · obtain ⟨y, _, rfl⟩ := List.mem_map.1 hu
    rfl
  · intro v' w' ho' hg' hnil hat
    refine h v' w' (by rw [List.length_append, List.map_append]; exact ho') ((Off.grown (Y := fun b => B ≤ b) hg' (fun r hr => (hown.lt r hr).1)).toBelow hB (fun b hb => hb))
set_option maxRecDepth 100000 in
set_option maxHeartbeats 8000000 in
theorem law_calls (w : World) (l : List Opn) (v : Value) (h : RdO w.heap.size w v l) :
    Calls Try.prog 18 #[v] w fun e w' => e = .returned (.bool true) ∧ Below w.heap.size w w' := by
  have hbn := bounded_calls w v l h
  have hrd := fun w' (hb : Below w.heap.size w w') => (h.below opE_keeps (w' := w') hb (Nat.le_refl _)).mono opE_keeps hb.size
  have hgr := fun w' hb => grown_calls w' v l (hrd w' hb)
  unfold GrownPost at hgr
  cases hB : bndO l with
  | false =>
    rw [hB] at hbn
    have Hbn := Lib.hid hbn
    clear hbn h hrd hgr
    go_enter Try.func18, Try.ntmps18
    go_wp2_with (first | (go_at_call 37; (with_reducible refine (Hbn.out).mono ?_); rintro e w5 ⟨rfl, rfl⟩) | (go_at_call 38; (with_reducible refine (shown_calls _).mono ?_); rintro e w6 ⟨rfl, hb6⟩; have Hb6 := Lib.hid hb6; clear hb6))
    go_ret
    exact ⟨rfl, Hb6.out⟩
  | true =>
    rw [hB] at hbn
    have hm := grow_may l
    obtain ⟨f, hf⟩ : ∃ f, f = growF l := ⟨_, rfl⟩
    rw [← hf] at hgr hm
    have hl60 := (may_is hm).len
    have Hbn := Lib.hid hbn; have Hgr := Lib.hid hgr; have Hm := Lib.hid hm
    clear hbn h hrd hgr hm hf
    go_enter Try.func18, Try.ntmps18
    go_upto_region 4 with (first | (go_at_call 37; (with_reducible refine (Hbn.out).mono ?_); rintro e w5 ⟨rfl, rfl⟩) | (go_at_call 38; (with_reducible refine (shown_calls _).mono ?_); rintro e w6 ⟨rfl, hb6⟩; have Hb6 := Lib.hid hb6; clear hb6) | (go_at_call 39; (with_reducible refine (Hgr.out _ Hb6.out).mono ?_); rintro e w7 ⟨v7, rfl, hr7, hb7⟩; have Hr7 := Lib.hid hr7; have Hb7 := Lib.hid (bthen Hb6.out hb7); clear hr7 hb7))
    obtain ⟨A7, c7, rfl, hl7, hc7, hr7⟩ := Hr7.out.form
    simp only [maxLen] at hc7
    have hr := fun w' (hb : Below w7.heap.size w7 w') => (hr7.below nodeE_keeps (w' := w') hb (Nat.le_refl _)).mono nodeE_keeps hb.size
    have h1 := fun w' hb i hwi => Order_calls w' _ f (hr w' hb) Hm.out i hwi
    have h2 := fun w' hb i d hd => Beside_calls w' _ f (hr w' hb) Hm.out i d hd
    have h3 := fun w' hb i => Kids_calls w' _ f (hr w' hb) Hm.out i
    unfold OrderPost at h1
    unfold KidsPost at h3
    have H1 := Lib.hid h1; have H2 := Lib.hid h2; have H3 := Lib.hid h3; have HR := Lib.hid hr
    clear h1 h2 h3 hr hr7 Hgr Hr7 Hbn
    go_wp2_with fail
    go_loopw [4, 5, 6, 7, 8, 9, 10, 11, 12, 13, 14] (fun id _ _ _ _ _ _ _ _ _ _ wr => ∃ k : Nat, k ≤ f.length ∧ id = .int .i64 k ∧ Below w7.heap.size w7 wr) (fun id _ _ _ _ _ _ _ _ _ _ _ => f.length - (intOf id).toNat)
    case atStart => exact ⟨0, Nat.zero_le _, rfl, Below.refl _ _⟩
    case round =>
      obtain ⟨k, hk, rfl, hb⟩ := hrel
      by_cases hlt : k < f.length
      · have hlt' : (k : Int) < (f.length : Int) := by omega
        have hn : isNode f (k : Int) = true := nodeI hlt
        have hoe := order_eq (may_is Hm.out).fam (may_is Hm.out).climb hn
        have hol := order_len (may_is Hm.out).fam (may_is Hm.out).climb hn
        have hk1 := H3.out wr hb k
        have hke : kidsE f k = ((at_ f (k : Int)).kids, 0) := by unfold kidsE; rw [if_neg (by rw [hn]; decide)]
        rw [hke] at hk1
        simp only at hk1
        have hkl := kids_len Hm.out hn
        have hwfn : ∀ x : Nat, x < 1000 → (Lit.int .i64 (x : Int)).wf = true := fun x hx => by simp only [Lit.wf, Bool.and_eq_true, decide_eq_true_eq]; have e1 : IntKind.i64.min = -9223372036854775808 := rfl; have e2 : IntKind.i64.max = 9223372036854775807 := rfl; omega
        have ho1 := fun w' hb' => H1.out w' hb' k (hwfn k (by omega))
        rw [show orderL f k = order f k from if_pos hn, show nodeErr f k = 0 from if_pos hn] at ho1
        obtain ⟨K, hK⟩ : ∃ K, K = (at_ f (k : Int)).kids := ⟨_, rfl⟩
        rw [← hK] at hk1 hkl hoe
        have hkid : ∀ x ∈ K, isNode f x = true := fun x hx => ((may_is Hm.out).kids k hlt x (by rw [← hK]; exact hx)).1
        have hbes : ∀ j (hj : j < K.length), besideE f (K[0]'(by omega)) j = (K[j], 0) := by subst hK; exact fun j hj => bes_ok (may_is Hm.out) hn (by omega) _ _ hj (by omega)
        have Hk1 := Lib.hid hk1; have Hb := Lib.hid hb; have Hoe := Lib.hid hoe; have Hkid := Lib.hid hkid; have Hbes := Lib.hid hbes; have Ho1 := Lib.hid ho1; have Hwf := Lib.hid hwfn
        clear hk1 hb hke hoe hkid hbes ho1 hwfn hK hn
        go_upto_region 8 with (go_at_call 46; (with_reducible refine (Hk1.out).mono ?_); rintro e w8 ⟨v8, rfl, hr8, hb8⟩; have Hr8 := Lib.hid hr8; have Hb8 := Lib.hid hb8; clear hr8 hb8)
        obtain ⟨A8, c8, rfl, hl8, hc8, hr8⟩ := Hr8.out.form
        simp only [maxLen] at hc8
        have Hr := Lib.hid hr8
        obtain ⟨w9, hw9⟩ : ∃ w9, w8.alloc (.cells #[.int .i64 (k : Int)] 3) = w9 := ⟨_, rfl⟩
        have hown9 : w9.ownsRow w8.heap.size 3 1 (.slice (some ⟨w8.heap.size, 0, none⟩) 1 1) 1 [.int .i64 (k : Int)] := by rw [← hw9]; exact World.ownsRow_lit (base := w8.heap.size) (e := 3) (size := 1) w8 #[.int .i64 (k : Int)] 1 (Nat.le_refl _) (by simp [maxLen]) rfl
        have hb9 : Below w8.heap.size w8 w9 := by rw [← hw9]; exact (Below.refl _ _).alloc (Nat.le_refl _) _
        have Hw9 := Lib.hid hw9; have Hown9 := Lib.hid hown9; have Hb9 := Lib.hid hb9; have HB8 := Lib.hid (bthen Hb.out Hb8.out)
        clear hw9 hown9 hb9 hr8 Hr8
        go_upto_region 9 with fail
        rw [Hw9.out]
        go_wp2_with fail
        go_loopw [7, 8, 9, 10, 11, 12] (fun want i _ _ _ _ wx => ∃ j : Nat, j ≤ K.length ∧ i = .int .i64 j ∧ Hid (wx.ownsRow w8.heap.size 3 1 want ((k : Int) :: (K.take j).flatMap (order f)).length (((k : Int) :: (K.take j).flatMap (order f)).map (Value.int .i64))) ∧ Hid (Below w8.heap.size w8 wx)) (fun _ i _ _ _ _ _ => K.length - (intOf i).toNat)
        case atStart => exact ⟨0, Nat.zero_le _, rfl, Hown9, Hb9⟩
        case round =>
          obtain ⟨j, hj, rfl, Hown, Hbx⟩ := hrel
          by_cases hjl : j < K.length
          · have hjl' : (j : Int) < (K.length : Int) := by omega
            have hj0 : decide ((j : Int) < 0) = false := by simp
            have h0l : (0 : Int) < (K.length : Int) := by omega
            have hrk := Hr.out.below (intE_keeps _) Hbx.out (Nat.le_refl _)
            obtain ⟨b8, o8, rfl, _, g0, _⟩ := intE_at hrk (show 0 < K.length by omega)
            obtain ⟨b', o', he, _, g1, _⟩ := intE_at hrk hjl
            injection he with he
            injection he with he he' _
            subst he he'
            rw [Nat.add_zero] at g0
            have hgo : ∀ w', Below wr.heap.size wr w' → w'.cell? ⟨b8, o8, none⟩ = some (.int .i64 (K[0]'(by omega))) ∧ w'.cell? ⟨b8, o8 + j, none⟩ = some (.int .i64 K[j]) := fun w' hb' => ⟨cell_grow hb' g0, cell_grow hb' g1⟩
            have hB := bthen HB8.out Hbx.out
            have hnx := Hkid.out _ (List.getElem_mem hjl)
            obtain ⟨x, hx, hxl⟩ := node_nat hnx
            have hoj := H1.out wr hB K[j] (by rw [hx]; exact Hwf.out x (by omega))
            rw [show orderL f K[j] = order f K[j] from if_pos hnx, show nodeErr f K[j] = 0 from if_pos hnx] at hoj
            have hob := order_eq (may_is Hm.out).fam (may_is Hm.out).climb hnx
            have hbj := fun w' hb' => H2.out w' hb' (K[0]'(by omega)) j (Hwf.out j (by omega))
            have hbj2 : ∀ w', Below w7.heap.size w7 w' → Calls Try.prog 45 #[.slice A7 f.length c7, .int .i64 (K[0]'(by omega)), .int .i64 j] w' fun e w'' => e = .returned (.tuple #[.int .i64 K[j], .int .i64 0]) ∧ w' = w'' := fun w' hb' => by
              have := hbj w' hb'
              rwa [Hbes.out j hjl] at this
            have htk : (k : Int) :: (K.take (j + 1)).flatMap (order f) = ((k : Int) :: (K.take j).flatMap (order f)) ++ order f K[j] := by
              rw [List.take_succ_eq_append_getElem hjl, List.flatMap_append]; simp
            have hpre : ((k : Int) :: (K.take (j + 1)).flatMap (order f)).length ≤ 60 := by
              have e : (order f (k : Int)).length = ((k : Int) :: K.flatMap (order f)).length := by rw [Hoe.out]
              have e2 : K.flatMap (order f) = (K.take (j + 1)).flatMap (order f) ++ (K.drop (j + 1)).flatMap (order f) := by rw [← List.flatMap_append, List.take_append_drop]
              rw [e2] at e
              simp only [List.length_cons, List.length_append] at e ⊢
              omega
            obtain ⟨M, hM⟩ : ∃ M, M = (k : Int) :: (K.take j).flatMap (order f) := ⟨_, rfl⟩
            rw [htk, ← hM, List.length_append] at hpre
            rw [← hM] at htk Hown
            have h0N : 0 < (order f K[j]).length := by rw [hob]; simp
            have Hoj := Lib.hid hoj; have Hbj := Lib.hid hbj2; have HB := Lib.hid hB; have Hgo := Lib.hid hgo; have Htk := Lib.hid htk
            clear hoj hbj hbj2 hB hgo htk hrk hob hnx hx hxl hM
            obtain ⟨N, hN⟩ : ∃ N, N = order f K[j] := ⟨_, rfl⟩
            rw [← hN] at Hoj Htk h0N hpre
            clear hN
            generalize K[j] = y at *
            generalize (K[0]'(by omega)) = y0 at *
            have hwb : w8.heap.size ≤ wr.heap.size := Hbx.out.size
            obtain ⟨Aw, cw, rfl⟩ := LShown.slice_of Hown.out
            go_upto_region 16 with (first
              | (go_at_call 42; (with_reducible refine (Hoj.out).mono ?_); rintro e w10 ⟨v10, rfl, hr10, hb10⟩; obtain ⟨p0, p1⟩ := Hgo.out w10 hb10; have Hr10 := Lib.hid hr10; have Hb10 := Lib.hid hb10; clear hr10 hb10)
              | (go_at_call 45; (with_reducible refine (Hbj.out _ (bthen HB.out Hb10.out)).mono ?_); rintro e w11 ⟨rfl, rfl⟩))
            obtain ⟨A10, c10, rfl, hl10, hc10, hr10⟩ := Hr10.out.form
            simp only [maxLen] at hc10
            have own10 := own_keep (w' := w10) Hown.out (fun g hg => Hb10.out.block g (Hown.out.lt g hg).2)
            have Hr10' := Lib.hid hr10; have Hown10 := Lib.hid own10
            clear hr10 own10 Hr10
            have hs10 : w8.heap.size ≤ w10.heap.size := Nat.le_trans hwb Hb10.out.size
            go_wp2_with (at_builtin; go_loud (refine pl_cat w10 rfl _ _ rfl w8.heap.size (.slice Aw M.length cw) M rfl Hown10.out A10 c10 N rfl Hr10'.out h0N (by omega) hs10 ?_; intro v12 w12 ho12 hb12))
            go_roundw
            case rel => exact ⟨j + 1, by omega, by go_num, Lib.hid (by rw [Htk.out]; exact ho12), Lib.hid ((bthen Hbx.out Hb10.out).trans hb12)⟩
            case measure => simp [intOf]; omega
          · obtain rfl : j = K.length := by omega
            rw [List.take_length, ← Hoe.out] at Hown
            have hB := bthen HB8.out Hbx.out
            have ho1 := Ho1.out wr hB
            obtain ⟨Aw, cw, rfl⟩ := LShown.slice_of Hown.out
            have hint : ∀ w' v', Below wr.heap.size wr w' → RdL (intE .i64) 1 w'.heap.size w' v' (order f (k : Int)) → Calls Try.prog 51 #[v', .slice Aw (order f (k : Int)).length cw] w' fun e w'' => e = .returned (.bool true) ∧ Below w'.heap.size w' w'' := fun w' v' hb' hr' => by
              have hown' := own_keep (w' := w') Hown.out (fun g hg => hb'.block g (Hown.out.lt g hg).2)
              have hrw : RdL (intE .i64) 1 w'.heap.size w' (.slice Aw (order f (k : Int)).length cw) (order f (k : Int)) := RdL.of_own (xs := (order f (k : Int)).map (Value.int .i64)) hown' rfl (fun g hg => (hown'.lt g hg).2) (fun i hi => ⟨by rw [Nat.mul_one, List.drop_eq_getElem_cons (by simpa using hi)]; simp, order_wf Hm.out (nodeI hlt) _ (List.getElem_mem hi)⟩)
              have := FSame.RefInts_calls w' _ _ _ _ hr' hrw
              simpa using this
            have Ho := Lib.hid ho1; have Hint := Lib.hid hint; have HB := Lib.hid hB
            clear ho1 hint hB
            go_wp2_with (first
              | (go_at_call 42; (with_reducible refine (Ho.out).mono ?_); rintro e w10 ⟨v10, rfl, hr10, hb10⟩; have Hr10 := Lib.hid hr10; have Hb10 := Lib.hid hb10; clear hr10 hb10)
              | (go_at_call 51; (with_reducible refine (Hint.out _ _ Hb10.out Hr10.out).mono ?_); rintro e w11 ⟨rfl, hb11⟩; have Hb11 := Lib.hid hb11; clear hb11))
            go_roundw
            case rel => exact ⟨k + 1, by omega, by go_num, bthen HB.out (bthen Hb10.out Hb11.out)⟩
            case measure => simp [intOf]; omega
      · obtain rfl : k = f.length := by omega
        have Hb := Lib.hid hb
        clear hb
        go_wp2_with fail
        go_ret
        exact ⟨by simp; omega, bthen Hb7.out Hb.out⟩
end Go.Proofs.Ytbbompmpecblgaa.LWKid
end
section
/- The law WalkKids answers true at every input, and each argument reads afterwards as it read before; no condition. -/
namespace Go.Proofs.Ytbbompmpecblgaa.walkKids
open Go.ChangeShapes Go.WideShapes Go.ChangeAt Go.RowKit
open Go.ChangeMaps (open_string shut_string)
set_option linter.unusedVariables false
theorem own : ownKnob Try.prog.godebug = none := by kernel_rfl
theorem laidOut : laidOutB Try.prog = true := by kernel_rfl
set_option maxRecDepth 100000 in
theorem lifted (os : Os) (started : os.Started) (H : Type) (enc : TypeId × Value → H) :
    ReturnsInHanded {} Try.checked os 18 .any (Rows.walkKidsSpec.pre6 enc Try.prog Try.f18 Rows.walkKidsRow.domain false) (Rows.walkKidsSpec.post enc Try.prog Try.f18 false true false false) := by
  refine returnsInHanded_of_change_sized (C := Try.checked) own started (by kernel_rfl) Try.func18
    (ChangeSpec.witness6 (enc := enc) (C := Try.checked) false ⟨#[], #[.slice none 0 0], []⟩ 8 (by kernel_rfl) (by kernel_rfl) (by kernel_rfl) (by kernel_rfl)) ?_
  intro W base args ds gs before hval0 hW hcnd hsz0 _
  have hsz : (DataW.weightsEach Try.prog (Try.f18.params.toList ++ Rows.walkKidsSpec.plain.varTypes Try.prog) (ds ++ gs)).all (· ≤ reachBytes) = true := hsz0
  have hval : ∀ (j : Nat) t v, Try.f18.params[j]? = some t → args[j]? = some v → Value.okWide Try.prog W .any base t v := hval0
  have hW' := hW
  obtain ⟨p, q, hA0, hV, rfl, hfz, hnd⟩ := hW
  have hA : DataW.TrodAll enc Try.prog W 0 (fun _ => true) true Try.f18.params.toList args.toList ds p := hA0
  rw [Try.params18] at hA hval hsz
  obtain ⟨v0, vs0, d0, ds0, p0, q0, hargs, rfl, rfl, h0, r0⟩ := trodAll_cons hA
  obtain ⟨rfl, rfl, rfl⟩ := trodAll_nil r0
  obtain rfl : args = #[v0] := by cases args; simp_all
  obtain ⟨rfl, rfl⟩ := trodVars_none hV
  have k0 := h0
  have lt0 : ∀ x ∈ p0, x.block < W.heap.size := by obtain ⟨m, hm⟩ := k0; exact DataW.trod_lt m _ _ _ hm
  obtain ⟨l0, x0⟩ := Rd.open_list 6 Try.underlying49 (by kernel_rfl) (by decide) Shapes.opens_op_Op (hval 0 49 v0 rfl rfl) h0
  clear hA0 hval0 hsz0 hsz
  refine (LWKid.law_calls W l0 v0 x0).mono fun e W' ⟨he, bel⟩ => ?_
  subst he
  exact ⟨_, rfl, _, _, _, [], _, [], hW', trodAll_mk1 (shut_bool Try.underlying4 _), (trodAll_cons_mk (Below.trod laidOut (by kernel_rfl) (of_decide_eq_true (by kernel_rfl)) k0 bel lt0) trodAll_mk0), rfl, bel.frame _, fun h => by cases h⟩
set_option maxHeartbeats 20000000 in
theorem closed : joinedFacts Try.pinned.checked.prog 18 Try.f18 Rows.walkKidsSpec Rows.walkKidsRow = true := by
  unfold joinedFacts
  repeat' (with_reducible refine Bool.and_eq_true_iff.2 ⟨?_, ?_⟩)
  all_goals as_aux_lemma => kernel_rfl
theorem over : Rows.walkKidsRow.holds Try.pinned (OpenSpec.ofChange Rows.walkKidsSpec) :=
  OpenClaim.holds_of_wide 18 Try.f18 rfl rfl rfl rfl rfl rfl rfl ⟨rfl, rfl, rfl, rfl, rfl⟩ rfl rfl rfl rfl rfl (by kernel_rfl) Try.func18 closed
    (of_decide_eq_true (by kernel_rfl)) (by unfold Func.isWrapper; first | (rw [if_pos (by decide +kernel)]; kernel_rfl) | (rw [if_neg (by decide +kernel)]; exact ⟨rfl, rfl⟩))
    (fun os started H enc _ => lifted os started H enc)
theorem proved : Rows.WalkKidsSaid := over
end Go.Proofs.Ytbbompmpecblgaa.walkKids
namespace Go.Proofs.Ytbbompmpecblgaa
/-- The row, under a short name, for the claim. -/
theorem walkKids_holds : Rows.WalkKidsSaid := walkKids.proved
#print axioms walkKids_holds
end Go.Proofs.Ytbbompmpecblgaa
end
