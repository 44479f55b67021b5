/- The same texts; WordJoins. -/
import Derived.Test.YtbbompmpecblgaaWShown
namespace Go.Proofs.Ytbbompmpecblgaa.WJoins
open Go Go.RowKit Go.Proofs.Ytbbompmpecblgaa.Seq Go.Proofs.Ytbbompmpecblgaa.WS Go.Proofs.Ytbbompmpecblgaa.WordIt Go.Proofs.Ytbbompmpecblgaa.Mem Go.Proofs.Ytbbompmpecblgaa.Word Go.Proofs.Ytbbompmpecblgaa.WShown
set_option linter.unusedVariables false
set_option linter.unusedSimpArgs false

theorem Same_calls (w : World) (B : Nat) (hB : B ≤ w.heap.size) (v1 v2 : Value) (l : List (List UInt8)) (h1 : RdRow B w v1 1 l.length (l.map str)) (h2 : RdRow B w v2 1 l.length (l.map str)) :
    Calls Try.prog 22 #[v1, v2] w fun e w' => e = .returned (.bool true) ∧ Below w.heap.size w w' := by
  have G1 := fun w' hb => h1.below (w' := w') (B' := w.heap.size) hb hB
  have G2 := fun w' hb => h2.below (w' := w') (B' := w.heap.size) hb hB
  obtain ⟨A1, c1, rfl, hc1, hm1, hn1, _⟩ := h1
  obtain ⟨A2, c2, rfl, hc2, hm2, hn2, _⟩ := h2
  have HG1 := Lib.hid G1; have HG2 := Lib.hid G2
  clear G1 G2
  go_enter Try.func22, Try.ntmps22
  go_wp2
  go_loopw [5] (fun i wr => ∃ k : Nat, k ≤ l.length ∧ i = .int .i64 k ∧ Below w.heap.size w wr) (fun i _ => l.length - (intOf i).toNat)
  case atStart => exact ⟨0, Nat.zero_le _, rfl, Below.refl _ _⟩
  case round =>
    obtain ⟨k, hk, rfl, hb⟩ := hrel
    by_cases hlt : k < l.length
    · obtain ⟨B1, d1, e1, _, _, _, g1⟩ := HG1.out _ hb
      obtain ⟨B2, d2, e2, _, _, _, g2⟩ := HG2.out _ hb
      simp only [Value.slice.injEq, true_and] at e1 e2
      obtain ⟨rfl, rfl⟩ := e1
      obtain ⟨rfl, rfl⟩ := e2
      obtain ⟨ad1, rfl, _, g1⟩ := g1 (by simp; omega)
      obtain ⟨ad2, rfl, _, g2⟩ := g2 (by simp; omega)
      have gc1 := g1 k (str l[k]) (by simp [hlt])
      have gc2 := g2 k (str l[k]) (by simp [hlt])
      obtain ⟨x, hx⟩ : ∃ x, x = (⟨l[k].toArray⟩ : ByteArray) := ⟨_, rfl⟩
      rw [show str l[k] = .string x from by rw [hx]; rfl] at gc1 gc2
      clear hx g1 g2
      have Hb := Lib.hid hb; clear hb
      go_wp2
      go_region
      go_wp2
      exact ⟨⟨k + 1, by omega, by go_num, Hb.out.drew⟩, by simp [intOf]; omega⟩
    · obtain rfl : k = l.length := by omega
      have Hb := Lib.hid hb; clear hb
      go_wp2
      go_ret
      exact ⟨rfl, Hb.out⟩

theorem rd_below {B : Nat} {w w' : World} {v : Value} {sz n : Nat} {cs : List Value} (h : RdRow B w v sz n cs) (hb : Below w.heap.size w w') (hB : B ≤ w.heap.size) : RdRow B w' v sz n cs := h.below (B' := w.heap.size) hb hB
/-- A whole slice behind a row of one's own. -/
theorem append_row {P : Program} (W : World) (base : Nat) (t ty e : TypeId) (z : Value) (bytes : Nat) (ht : P.underlying t = some (.slice e)) (hinfo : (P.info? e).map (fun i => (i.zero, i.size, i.bytes)) = some (some z, 1, bytes)) (hz : z.cells.size = 1)
    (v : Value) (xs : List Value) (HO : W.ownsRow base e 1 v xs.length xs) (hbase : base ≤ W.heap.size) (B : Nat) (u : Value) (ys : List Value) (HR : RdRow B W u 1 ys.length ys) (h1 : ∀ y ∈ ys, y.oneCell' = true)
    (hl : (xs.length + ys.length) * bytes ≤ 140737488355328) (hm : xs.length + ys.length ≤ maxLen) :
    ∃ v1 w1, (Builtin.append_ #[t, t] ty #[v, u]).run P W = .ok v1 w1 ∧ w1.ownsRow base e 1 v1 (xs ++ ys).length (xs ++ ys) ∧ W.grownBy w1 v.ownBlock := by
  obtain ⟨i0, hi, hzz⟩ := Option.map_eq_some_iff.1 hinfo
  simp only [Prod.mk.injEq] at hzz
  obtain ⟨hz0, hz1, hz2⟩ := hzz
  obtain ⟨A, c, rfl, _, _, hlen, hc⟩ := HR
  cases A with
  | none =>
    have : ys = [] := by
      cases ys with
      | nil => rfl
      | cons y ys => obtain ⟨ad, h, _⟩ := hc (by simp); cases h
    subst this
    refine ⟨v, W, ?_, by simpa using HO, ⟨rfl, rfl, rfl, Nat.le_refl _, fun _ _ _ => rfl⟩⟩
    rcases HO.2 with ⟨rfl, _⟩ | ⟨g, cap, cur, rfl, _, _, hnc, _⟩
    · simp [Builtin.append_, run_underlying ht, sizeOf, typeInfo, hi, Builtin.lenOf, Builtin.firstCells]
    · simp [Builtin.append_, run_underlying ht, sizeOf, typeInfo, hi, Builtin.lenOf, Builtin.firstCells, hnc, storeCells]
  | some ad =>
    have hn : ∀ j x, ys[j]? = some x → W.cell? (ad.add j) = some x := by
      intro j x hj
      cases ys with
      | nil => simp at hj
      | cons y ys =>
        obtain ⟨ad', h, _, hh⟩ := hc (by simp)
        simp only [Option.some.injEq] at h
        subst h
        exact hh j x hj
    obtain ⟨v1, w1, hr, h2, hg, _, hat⟩ := run_append_own_at (P := P) W base t ty e i0 z 1 bytes ht hi hz0 hz1 hz2 hz (by omega) v xs.length xs HO ad ys.length c ys (by simp) hn h1 hm hl (by omega)
    exact ⟨v1, w1, hr, by simpa using h2, hg⟩
theorem pl_append_row {P : Program} {ops : Array Oper} {rest : List Oper} {o : Oper} {a : Act} {Q : Exit → Act → World → Prop} (W : World) (base : Nat) (hgd : o.guard = none) (s x : Operand) (t e : TypeId) (z : Value) (bytes : Nat)
    (ho : o.op = .call { callee := .builtin .append, args := #[s, x], argTypes := #[t, t] }) (ht : P.underlying t = some (.slice e)) (hinfo : (P.info? e).map (fun i => (i.zero, i.size, i.bytes)) = some (some z, 1, bytes)) (hz : z.cells.size = 1)
    (v : Value) (xs : List Value) (u : Value) (ys : List Value) (hs : a.eval s = v) (hx : a.eval x = u) (HO : W.ownsRow base e 1 v xs.length xs) (hbase : base ≤ W.heap.size) (B : Nat) (HR : RdRow B W u 1 ys.length ys) (h1 : ∀ y ∈ ys, y.oneCell' = true)
    (hl : (xs.length + ys.length) * bytes ≤ 140737488355328) (hm : xs.length + ys.length ≤ maxLen)
    (h : ∀ v1 w1, w1.ownsRow base e 1 v1 (xs ++ ys).length (xs ++ ys) → W.grownBy w1 v.ownBlock → wpList P ops Q rest (a.put o.dst v1) w1) :
    wpList P ops Q (o :: rest) a W := by
  obtain ⟨v1, w1, hrun, r1, r2⟩ := append_row (P := P) W base t o.type e z bytes ht hinfo hz v xs HO hbase B u ys HR h1 hl hm
  refine wpList_plain hgd fun K hK => ?_
  unfold Oper.wp execOp
  simp only [ho, resolve, invoke, builtin, Sem.run_bind, Sem.run_pure, Result.andThen_ok, List.map_toArray, List.map_cons, List.map_nil, hs, hx, hrun]
  exact hK _ _ (h v1 w1 r1 r2)

/-- Words of two texts with a blank between. -/
theorem words_blank_any (y : UInt8) (hb10 : isBlank y = true) (l : List UInt8) : ∀ (t : List UInt8), words (l ++ y :: t) = words l ++ words t := by
  induction h : l.length using Nat.strongRecOn generalizing l with
  | _ n ih =>
    intro t
    by_cases ht : trimB l = []
    · have hall : ∀ b ∈ l, isBlank b = true := by
        intro b hb
        unfold trimB at ht
        clear ih h
        induction l with
        | nil => cases hb
        | cons x l ihl =>
          rw [List.dropWhile_cons] at ht
          cases hx : isBlank x with
          | false => rw [hx] at ht; cases ht
          | true =>
            rw [hx] at ht
            rcases List.mem_cons.1 hb with rfl | hb
            · exact hx
            · exact ihl ht hb
      have hd : trimB (l ++ y :: t) = trimB t := by
        unfold trimB
        rw [List.dropWhile_append, (by unfold trimB at ht; exact ht : List.dropWhile isBlank l = [])]
        simp [hb10]
      rw [words_nil ht, List.nil_append]
      by_cases h0 : trimB t = []
      · rw [words_nil h0, words_nil (by rw [hd, h0])]
      · rw [words_cons h0, words_cons (by rw [hd]; exact h0), hd]
    · have e : trimB (l ++ y :: t) = trimB l ++ y :: t := by
        unfold trimB at ht ⊢
        rw [List.dropWhile_append]
        simp [ht]
      have h1 := tailB_lt ht
      have h2 := trimB_le l
      have key : ∀ u : List UInt8, headB (u ++ y :: t) = headB u ∧ tailB (u ++ y :: t) = tailB u ++ y :: t := by
        intro u
        induction u with
        | nil => constructor <;> simp [headB, tailB, hb10]
        | cons x u ihu =>
          cases hx : isBlank x with
          | true => constructor <;> simp [headB, tailB, hx]
          | false =>
            obtain ⟨i1, i2⟩ := ihu
            unfold headB at i1
            unfold tailB at i2
            constructor
            · simp only [headB, List.cons_append, List.takeWhile_cons, hx]; simpa using i1
            · simp only [tailB, List.cons_append, List.dropWhile_cons, hx]; simpa using i2
      rw [words_cons (by rw [e]; simp), e, (key _).1, (key _).2, words_cons ht, ih _ (by omega) _ rfl t, List.cons_append]

theorem words_blank (l : List UInt8) : ∀ (t : List UInt8), words (l ++ 10 :: t) = words l ++ words t := words_blank_any 10 (by decide) l

/-- What the loop has put so far: of the second text's words those that the first one lacks. -/
def more (s : ByteArray) (l : List (List UInt8)) : List (List UInt8) := l.filter (fun w => !(once (words s.data.toList)).contains w)
theorem more_snoc (s : ByteArray) (l : List (List UInt8)) (x : List UInt8) : more s (l ++ [x]) = if (words s.data.toList).contains x then more s l else more s l ++ [x] := by
  unfold more
  rw [List.filter_append, List.filter_cons]
  have : (once (words s.data.toList)).contains x = (words s.data.toList).contains x := by
    rw [Bool.eq_iff_iff]; simp [mem_once]
  rw [this]
  cases (words s.data.toList).contains x <;> simp
theorem first_row (os : List (List UInt8)) (ls : os.length ≤ 200) {w2 w3 : World} {v : Value} (hb3 : Below (w2.alloc (.cells #[] 9 (0, 0))).heap.size (w2.alloc (.cells #[] 9 (0, 0))) w3) (hv : RdRow w3.heap.size w3 v 1 os.length (os.map str)) :
    w2.heap.size ≤ w3.heap.size ∧ w3.ownsRow w2.heap.size 9 1 (.slice (some ⟨w2.heap.size, 0, none⟩) 0 0) ([] : List Value).length ([] : List Value) ∧ (∀ y ∈ os.map str, y.oneCell' = true) ∧
      RdRow w3.heap.size w3 v 1 (os.map str).length (os.map str) ∧ (([] : List Value).length + (os.map str).length) * 16 ≤ 140737488355328 ∧ ([] : List Value).length + (os.map str).length ≤ maxLen := by
  refine ⟨Nat.le_trans (by simp) hb3.size, own_keep (World.ownsRow_lit (base := w2.heap.size) (e := 9) (size := 1) w2 #[] 0 (Nat.le_refl _) (by simp [maxLen]) rfl) (fun g hg => hb3.block g ?_), ?_, ?_, ?_, ?_⟩
  · simp [Value.ownBlock] at hg; subst hg; simp
  · intro y hy; obtain ⟨x, _, rfl⟩ := List.mem_map.1 hy; rfl
  · rw [List.length_map]; exact hv
  · simp; omega
  · simp [maxLen]; omega
theorem second_row {w w2 w3 w4 w5 : World} {v1 vt : Value} {os ot : List (List UInt8)} (ls : os.length ≤ 200) (lt : ot.length ≤ 200) (hle : w2.heap.size ≤ w3.heap.size)
    (hown : w4.ownsRow w2.heap.size 9 1 v1 ([] ++ os.map str).length ([] ++ os.map str)) (hgrow : w3.grownBy w4 (Value.slice (some ⟨w2.heap.size, 0, none⟩) 0 0).ownBlock) (hvt : w5.ownsRow w4.heap.size 9 1 vt ot.length (ot.map str))
    (hb2 : Below w.heap.size w w2) (hb3 : Below (w2.alloc (.cells #[] 9 (0, 0))).heap.size (w2.alloc (.cells #[] 9 (0, 0))) w3) (hb5 : Below w4.heap.size w4 w5) :
    w5.ownsRow w2.heap.size 9 1 v1 os.length (os.map str) ∧ (∀ g, v1.ownBlock = some g → vt.ownBlock ≠ some g) ∧ RdRow w5.heap.size w5 vt 1 ot.length (ot.map str) ∧ Below w.heap.size w w5 := by
  refine ⟨?_, ?_, RdRow.of_own hvt, ?_⟩
  · have := own_keep hown (w' := w5) (fun g hg => hb5.block g (hown.lt g hg).2)
    simpa using this
  · intro g hg hg'
    have := (hown.lt g hg).2
    have := (hvt.lt g hg').1
    omega
  · have b3 : Below w.heap.size w w3 := bthen hb2 (((Below.refl _ _).alloc (Nat.le_refl _) _).trans (hb3.mono (by simp)))
    have b4 : Below w.heap.size w w4 := b3.trans ((Off.grown (Y := fun b => b = w2.heap.size) hgrow (fun r hr => by simp [Value.ownBlock] at hr; exact hr.symm)).toBelow b3.size (fun b hb => by rw [hb]; exact hb2.size))
    exact bthen b4 hb5
theorem third_row {s : ByteArray} {wr w6 : World} {B k : Nat} {v : Value} {os ot : List (List UInt8)} (ls : os.length ≤ 200) (lt : ot.length ≤ 200) (hlt : k < ot.length) (hln : (more s (ot.take k)).length ≤ k) (hB : B ≤ wr.heap.size)
    (h : wr.ownsRow B 9 1 v (os ++ more s (ot.take k)).length ((os ++ more s (ot.take k)).map str)) (hb : Below wr.heap.size wr w6) :
    w6.ownsRow B 9 1 v ((os ++ more s (ot.take k)).map str).length ((os ++ more s (ot.take k)).map str) ∧ B ≤ w6.heap.size ∧ (((os ++ more s (ot.take k)).map str).length + 1) * 16 ≤ 140737488355328 ∧ ((os ++ more s (ot.take k)).map str).length + 1 ≤ maxLen := by
  refine ⟨?_, Nat.le_trans hB hb.size, ?_, ?_⟩
  · rw [List.length_map]
    exact own_keep h (fun g hg => hb.block g (h.lt g hg).2)
  · simp; omega
  · simp [maxLen]; omega
theorem fourth_row {s : ByteArray} {w wr w6 w7 : World} {B B4 k g7 cap7 : Nat} {v vt : Value} {os ot : List (List UInt8)} {n7 : Nat} {x : ByteArray} {hk : k < ot.length} (hx : x = (⟨ot[k].toArray⟩ : ByteArray)) (hsn : more s (ot.take (k + 1)) = more s (ot.take k) ++ [x.data.toList])
    (h2 : ∀ g, v.ownBlock = some g → vt.ownBlock ≠ some g) (h3 : wr.ownsRow B4 9 1 vt ot.length (ot.map str)) (h4 : Below w.heap.size w wr) (h5 : B ≤ wr.heap.size) (hb : Below wr.heap.size wr w6)
    (hown : w7.ownsRow B 9 1 (.slice (some ⟨g7, 0, none⟩) n7 cap7) ((os ++ more s (ot.take k)).map str ++ [Value.string x]).length ((os ++ more s (ot.take k)).map str ++ [Value.string x])) (hg : w6.grownBy w7 v.ownBlock)
    (hat : v.ownBlock = some g7 ∨ w6.heap.size ≤ g7) (hB : w.heap.size ≤ B) (hl : ∀ g, v.ownBlock = some g → B ≤ g ∧ g < wr.heap.size) :
    w7.ownsRow B 9 1 (.slice (some ⟨g7, 0, none⟩) n7 cap7) (os ++ more s (ot.take (k + 1))).length ((os ++ more s (ot.take (k + 1))).map str) ∧ (∀ g, (Value.slice (some ⟨g7, 0, none⟩) n7 cap7).ownBlock = some g → vt.ownBlock ≠ some g) ∧
      w7.ownsRow B4 9 1 vt ot.length (ot.map str) ∧ Below w.heap.size w w7 ∧ B ≤ w7.heap.size := by
  have e : ((os ++ more s (ot.take (k + 1))).map str) = (os ++ more s (ot.take k)).map str ++ [Value.string x] := by
    rw [hsn, ← List.append_assoc, List.map_append]
    simp [str]
  refine ⟨?_, ?_, ?_, ?_, Nat.le_trans h5 (Nat.le_trans hb.size hg.size)⟩
  · have : (os ++ more s (ot.take (k + 1))).length = ((os ++ more s (ot.take k)).map str ++ [Value.string x]).length := by rw [← e]; simp
    rw [e, this]; exact hown
  · intro g hg0 hv
    simp [Value.ownBlock] at hg0
    subst hg0
    rcases hat with hat | hat
    · exact h2 _ hat hv
    · have := (h3.lt _ hv).2
      have := hb.size
      omega
  · refine own_keep h3 (fun g hg0 => (hg.block g (Nat.lt_of_lt_of_le (h3.lt g hg0).2 hb.size) (fun e => h2 g e.symm hg0)).trans (hb.block g (h3.lt g hg0).2))
  · exact (bthen h4 hb).trans ((Off.grown (Y := fun b => B ≤ b) hg (fun r hr => (hl r hr).1)).toBelow (Nat.le_trans h4.size hb.size) (fun b hb => Nat.le_trans hB hb))
set_option maxHeartbeats 2000000 in
theorem WordJoins_calls (s t : ByteArray) (w : World) : Calls Try.prog 5 #[.string s, .string t] w fun e w' => e = .returned (.bool true) ∧ Below w.heap.size w w' := by
  by_cases hs : 200 < s.size
  · go_enter Try.func5, Try.ntmps5
    go_wp2_with (go_at_call 19; refine (shown_calls _).mono ?_; rintro e w2 ⟨rfl, hb2⟩)
    go_ret
    exact ⟨rfl, hb2⟩
  by_cases ht : 200 < t.size
  · go_enter Try.func5, Try.ntmps5
    go_wp2_with (go_at_call 19; refine (shown_calls _).mono ?_; rintro e w2 ⟨rfl, hb2⟩)
    go_ret
    exact ⟨rfl, hb2⟩
  have hTj := fun w => WordHas.Tokens_calls (s ++ (⟨#[10]⟩ : ByteArray) ++ t) (by simp [ByteArray.size_append]; show s.size + 1 + t.size < _; omega) w
  have hj : once (words (s ++ (⟨#[10]⟩ : ByteArray) ++ t).data.toList) = once (words s.data.toList) ++ more s (once (words t.data.toList)) := by
    have : (s ++ (⟨#[10]⟩ : ByteArray) ++ t).data.toList = s.data.toList ++ 10 :: t.data.toList := by
      rw [ByteArray.data_append, ByteArray.data_append]; simp
    rw [this, words_blank, once_append]; rfl
  rw [hj] at hTj
  have hHas := fun tok w => WordHas.Has_calls s tok (by omega) w
  have hTs := fun w => WordHas.Tokens_calls s (by omega) w
  have hTt := fun w => WordHas.Tokens_own t (by omega) w
  have ls : (once (words s.data.toList)).length ≤ 200 := Nat.le_trans (once_length _) (Nat.le_trans (words_length _) (by rw [← Lib.size_eq]; omega))
  have lt : (once (words t.data.toList)).length ≤ 200 := Nat.le_trans (once_length _) (Nat.le_trans (words_length _) (by rw [← Lib.size_eq]; omega))
  generalize hos : once (words s.data.toList) = os at *
  generalize hot : once (words t.data.toList) = ot at *
  have Hos := Lib.hid hos; have Hot := Lib.hid hot; have HTs := Lib.hid hTs; have HTt := Lib.hid hTt; have HTj := Lib.hid hTj; have HHas := Lib.hid hHas
  clear hos hot hTs hTt hTj hj hHas
  go_enter Try.func5, Try.ntmps5
  go_wp2_with (first
    | (go_at_call 19; refine (shown_calls _).mono ?_; rintro e w2 ⟨rfl, hb2⟩)
    | (go_at_call 23; with_reducible refine (HTs.out _).mono ?_; rintro e w3 ⟨v, rfl, hv, hb3⟩; obtain ⟨hle, hown0, hones, hv', hl1, hl2⟩ := first_row os ls hb3 hv; have Hb2 := Lib.hid hb2; have Hb3 := Lib.hid hb3; have Hv := Lib.hid hv'; have Hown0 := Lib.hid hown0; have Hones := Lib.hid hones; have Hl1 := Lib.hid hl1; have Hl2 := Lib.hid hl2; have Hle := Lib.hid hle; clear hb2 hb3 hv hv' hown0 hones hl1 hl2 hle)
    | (go_at_call 23; with_reducible refine (HTt.out _).mono ?_; rintro e w5 ⟨vt, rfl, hvt, hb5⟩; have Hb5 := Lib.hid hb5; have Hvt := Lib.hid hvt; clear hvt hb5)
    | (at_builtin; (refine pl_append_row w3 w2.heap.size rfl _ _ 22 9 (.string ⟨#[]⟩) 16 rfl Try.underlying22 WordHas.info_str rfl (.slice (some ⟨w2.heap.size, 0, none⟩) 0 0) [] v (os.map str) rfl rfl Hown0.out Hle.out w3.heap.size Hv.out Hones.out Hl1.out Hl2.out ?_); rintro v1 w4 hown hgrow; have Hown := Lib.hid hown; have Hgrow := Lib.hid hgrow; clear hown hgrow))
  obtain ⟨q1, q2, q3, q4⟩ := second_row ls lt Hle.out Hown.out Hgrow.out Hvt.out Hb2.out Hb3.out Hb5.out
  have HQ1 := Lib.hid q1; have HQ2 := Lib.hid q2; have HQ4 := Lib.hid q4
  obtain ⟨At, ct, rfl⟩ : ∃ A c, vt = .slice A ot.length c := by obtain ⟨A, c, rfl, _⟩ := RdRow.of_own Hvt.out; exact ⟨A, c, rfl⟩
  clear q1 q2 q3 q4
  go_loopw [5, 7] (fun v i wr => ∃ k : Nat, k ≤ ot.length ∧ i = .int .i64 k ∧ wr.ownsRow w2.heap.size 9 1 v (os ++ more s (ot.take k)).length ((os ++ more s (ot.take k)).map str) ∧ (∀ g, v.ownBlock = some g → (Value.slice At ot.length ct).ownBlock ≠ some g) ∧ wr.ownsRow w4.heap.size 9 1 (.slice At ot.length ct) ot.length (ot.map str) ∧ Below w.heap.size w wr ∧ w2.heap.size ≤ wr.heap.size) (fun _ i _ => ot.length - (intOf i).toNat)
  case atStart => exact ⟨0, Nat.zero_le _, rfl, by simpa [more] using HQ1.out, HQ2.out, Hvt.out, HQ4.out, Nat.le_trans Hle.out (Nat.le_trans Hgrow.out.size Hb5.out.size)⟩
  case round =>
    obtain ⟨k, hk, rfl, h1, h2, h3, h4, h5⟩ := hrel
    by_cases hlt : k < ot.length
    · obtain ⟨A', c', e', _, _, _, g1⟩ := RdRow.of_own h3
      simp only [Value.slice.injEq, true_and] at e'
      obtain ⟨rfl, rfl⟩ := e'
      obtain ⟨ad, rfl, _, g1⟩ := g1 (by simp; omega)
      have gc := g1 k (str ot[k]) (by simp [hlt])
      obtain ⟨x, hx⟩ : ∃ x, x = (⟨ot[k].toArray⟩ : ByteArray) := ⟨_, rfl⟩
      have hxl : x.data.toList = ot[k] := by rw [hx]
      rw [show str ot[k] = .string x from by rw [hx]; rfl] at gc
      have hsn := more_snoc s (ot.take k) ot[k]
      rw [← List.take_succ_eq_append_getElem hlt, ← hxl] at hsn
      have hH : ∀ w, Calls Try.prog 21 #[.string s, .string x] w fun e w' => e = .returned (.bool ((words s.data.toList).contains x.data.toList)) ∧ Below w.heap.size w w' := fun w => HHas.out x w
      have hln : (more s (ot.take k)).length ≤ k := Nat.le_trans (List.length_filter_le _ _) (List.length_take_le _ _)
      cases hc : (words s.data.toList).contains x.data.toList with
      | true =>
        rw [hc, if_pos rfl] at hsn
        rw [hc] at hH
        have H1 := Lib.hid h1; have H2 := Lib.hid h2; have H3 := Lib.hid h3; have H4 := Lib.hid h4; have HH := Lib.hid hH; have Hsn := Lib.hid hsn
        clear h1 h2 h3 h4 hH hsn hc hxl hx g1
        go_wp2_with (go_at_call 21; with_reducible refine (HH.out _).mono ?_; rintro e w6 ⟨rfl, hb6⟩; have Hb6 := Lib.hid hb6; clear hb6)
        go_roundw
        case rel => exact ⟨k + 1, by omega, by go_num, by rw [Hsn.out]; exact own_keep H1.out (fun g hg => Hb6.out.block g (H1.out.lt g hg).2), H2.out, own_keep H3.out (fun g hg => Hb6.out.block g (H3.out.lt g hg).2), bthen H4.out Hb6.out, Nat.le_trans h5 Hb6.out.size⟩
        case measure => simp [intOf]; omega
      | false =>
        rw [hc, if_neg (by simp)] at hsn
        rw [hc] at hH
        have H1 := Lib.hid h1; have H2 := Lib.hid h2; have H3 := Lib.hid h3; have H4 := Lib.hid h4; have HH := Lib.hid hH; have Hsn := Lib.hid hsn; have Hx := Lib.hid hx
        clear h1 h2 h3 h4 hH hsn hc hxl g1 hx
        go_wp2_with (first
          | (go_at_call 21; with_reducible refine (HH.out _).mono ?_; rintro e w6 ⟨rfl, hb6⟩; have gc6 := cell_grow hb6 gc; clear gc; have Hb6 := Lib.hid hb6; clear hb6; obtain ⟨n1, n2, n3, n4⟩ := third_row ls lt hlt hln h5 H1.out Hb6.out; have N1 := Lib.hid n1; have N2 := Lib.hid n2; have N3 := Lib.hid n3; have N4 := Lib.hid n4; clear n1 n2 n3 n4)
          | (at_builtin; (refine pl_append w6 w2.heap.size rfl _ _ 22 9 (.string ⟨#[]⟩) 16 rfl Try.underlying22 WordHas.info_str rfl u5 ((os ++ more s (ot.take k)).map str) (.string x) rfl rfl rfl N1.out N2.out N3.out N4.out ?_); rintro v7 w7 hown7 hgrow7 ⟨g7, cap7, rfl, hat⟩; have Hown7 := Lib.hid hown7; have Hgrow7 := Lib.hid hgrow7; have Hat := Lib.hid hat; clear hown7 hgrow7 hat))
        go_roundw
        case rel =>
          obtain ⟨m1, m2, m3, m4, m5⟩ := fourth_row Hx.out Hsn.out H2.out H3.out H4.out h5 Hb6.out Hown7.out Hgrow7.out Hat.out Hb2.out.size (fun g hg => H1.out.lt g hg)
          exact ⟨k + 1, by omega, by go_num, by simpa only [List.length_map, List.length_append] using m1, m2, m3, m4, m5⟩
        case measure => simp [intOf]; omega
    · obtain rfl : k = ot.length := by omega
      rw [List.take_length] at h1
      have hrd := RdRow.of_own h1
      have H1 := Lib.hid h1; have H4 := Lib.hid h4; have Hrd := Lib.hid hrd
      clear h1 h2 h3 h4 hrd
      go_wp2_with (first
        | (go_at_call 23; with_reducible refine (HTj.out _).mono ?_; rintro e w8 ⟨v8, rfl, hv8, hb8⟩; have Hv8 := Lib.hid hv8; have Hb8 := Lib.hid hb8; clear hv8 hb8)
        | (go_at_call 22; with_reducible (refine (Same_calls _ _ (Nat.le_refl _) _ _ (os ++ more s ot) Hv8.out ((rd_below Hrd.out Hb8.out (Nat.le_refl _)).mono Hb8.out.size)).mono ?_); rintro e w9 ⟨rfl, hb9⟩; have Hb9 := Lib.hid hb9; clear hb9))
      go_ret
      exact ⟨rfl, bthen (bthen H4.out Hb8.out) Hb9.out⟩
end Go.Proofs.Ytbbompmpecblgaa.WJoins
