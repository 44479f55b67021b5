/- Joined by a program: ALiesB, AOneA, AOneB, GOps, WkP. -/
import Derived.Deep.RegionHeld3
import Derived.Test.YtbbompmpecblgaaC11
import Derived.Test.YtbbompmpecblgaaC10
import Derived.Test.YtbbompmpecblgaaC17
import Derived.Test.YtbbompmpecblgaaC14
import Derived.Test.YtbbompmpecblgaaC07
section
/- apply.lies itself. -/
namespace Go.Proofs.Ytbbompmpecblgaa.Work
open Go Go.RowKit Go.Proofs.Ytbbompmpecblgaa.Seq Go.Proofs.Ytbbompmpecblgaa.WS Go.Proofs.Ytbbompmpecblgaa.FS Go.Proofs.Ytbbompmpecblgaa.Mem Go.Proofs.Ytbbompmpecblgaa.Rd Go.Proofs.Ytbbompmpecblgaa.Shapes Go.Proofs.Ytbbompmpecblgaa.Word Go.Proofs.Ytbbompmpecblgaa.FFam Go.Proofs.Ytbbompmpecblgaa.OwnF
set_option linter.unusedVariables false
set_option linter.unusedSimpArgs false

section
variable {base wk g c : Nat} {o : Opn} {f : Fo}
set_option maxHeartbeats 2000000 in
theorem lies_chk (hm : mayB f = true) (hi : isNode f o.id = true) (ht : isNode f o.to = true) : Chk 120 base wk g c o f (liesB f o) := by
  intro w h
  obtain ⟨c0, c1, c2, c3, c4, c5, c6⟩ := h.cells
  have hl := h.big
  obtain ⟨va, vk, k0, k1, k2, k3, k4, k5, ra, rk⟩ := h.node ht
  obtain ⟨Aa, ca, rfl, hca, hcma⟩ := ra.form
  obtain ⟨Ak, ck, rfl, hck, hcm⟩ := rk.form
  obtain ⟨t, hto, htl⟩ := node_nat ht
  have htn : (t : Int) < f.length := by omega
  have hfam := may_family hm
  have hkids : ∀ x ∈ (at_ f o.to).kids, isNode f x = true := fun x hx => (fam_kids hfam ht hx).1
  have hrk : ∀ w', Below w.heap.size w w' → RdL (intE .i64) 1 w'.heap.size w' (.slice Ak (at_ f o.to).kids.length ck) (at_ f o.to).kids := fun w' hw' => (rk.keep (fun b _ hl => hw'.block b hl) hw'.size (fun b x _ => x)).rd
  have hany : ∀ w', Below w.heap.size w w' → ∀ bx, w'.cell? ⟨bx, 0, none⟩ = some (.pointer (some ⟨wk, 0, none⟩)) → Calls Try.prog 150 #[.slice Ak (at_ f o.to).kids.length ck, .func (.func 151) #[] #[.pointer (some ⟨bx, 0, none⟩)]] w' fun e w'' => e = .returned (.bool ((at_ f o.to).kids.any (fun k => k != o.id && (at_ f k).kind == 1))) ∧ w' = w'' := fun w' hw' bx hbx =>
    ContainsFunc_calls w' _ _ (hrk w' hw') _ _ (fun j hj => lies1_calls w' (h.below hw') bx hbx _ (hkids _ (List.getElem_mem _)))
  have his : ∀ w', Below w.heap.size w w' → ∀ x : Int, (Lit.int .i64 x).wf = true → Calls Try.prog 138 #[.pointer (some ⟨wk, 0, none⟩), .slice (some ⟨w'.heap.size, 0, none⟩) 1 1] (w'.alloc (.cells #[.int .i64 x] 3)) (ChkPost ((at_ f o.id).kind == x) (w'.alloc (.cells #[.int .i64 x] 3))) := fun w' hw' x hx => by
    have hs := is_calls (w'.alloc (.cells #[.int .i64 x] 3)) ((h.below hw').below ((Below.refl _ _).alloc (Nat.le_refl _) _)) hi _ [x] (lit_ints w' [x] (by simp) (by simpa using hx))
    have e : [x].any (fun y => y == (at_ f o.id).kind) = ((at_ f o.id).kind == x) := by
      rw [Bool.eq_iff_iff]; simp; exact ⟨fun h => h.symm, fun h => h.symm⟩
    rw [e] at hs
    exact hs
  have hb : ∀ bb, liesB f o = bb → (o.id = 0 → bb = false) ∧ ((at_ f o.to).kind ≠ 0 → (at_ f o.to).kind ≠ 1 → bb = false) ∧ (o.id ≠ 0 → (at_ f o.to).kind = 0 ∨ (at_ f o.to).kind = 1 → bb = (decide (o.to ≠ 0) || ((at_ f o.id).kind == 3) || ((at_ f o.id).kind == 1 && !(at_ f o.to).kids.any (fun k => k != o.id && (at_ f k).kind == 1)))) := by
    rintro bb rfl
    refine ⟨fun h => ?_, fun h1 h2 => ?_, fun h1 h2 => ?_⟩
    · unfold liesB; rw [if_pos (.inl h)]
    · unfold liesB; rw [if_pos (.inr ⟨h1, h2⟩)]
    · unfold liesB; rw [if_neg (by rintro (h | ⟨h3, h4⟩); exact h1 h; exact h2.elim h3 h4)]
      by_cases e1 : o.to ≠ 0
      · rw [if_pos (.inl e1), decide_eq_true e1]; rfl
      · rw [decide_eq_false e1]
        by_cases e2 : (at_ f o.id).kind = 3
        · rw [if_pos (.inr e2), e2]; rfl
        · rw [if_neg (by rintro (h | h); exact e1 h; exact e2 h)]
          have : ((at_ f o.id).kind == 3) = false := by rw [beq_eq_false_iff_ne]; exact e2
          rw [this]; rfl
  generalize liesB f o = bb at *
  have hb := hb _ rfl
  obtain ⟨av, hav⟩ : ∃ av, (at_ f o.to).kids.any (fun k => k != o.id && (at_ f k).kind == 1) = av := ⟨_, rfl⟩
  rw [hav] at hb hany
  have hcc : ∀ w', Below w.heap.size w w' → w'.cell? ⟨wk, 0, none⟩ = some (.slice (some ⟨g, 0, none⟩) f.length c) ∧ w'.cell? ⟨wk, 2, none⟩ = some (.int .i64 o.id) ∧ w'.cell? ⟨wk, 3, none⟩ = some (.int .i64 o.to) ∧
    w'.cell? ⟨g, o.to.toNat * 6, none⟩ = some (.int .i64 (at_ f o.to).kind) ∧ w'.cell? ⟨g, o.to.toNat * 6 + 1, none⟩ = some (.string (at_ f o.to).name) ∧ w'.cell? ⟨g, o.to.toNat * 6 + 2, none⟩ = some (.string (at_ f o.to).text) ∧ w'.cell? ⟨g, o.to.toNat * 6 + 3, none⟩ = some (.slice Aa (at_ f o.to).attrs.length ca) ∧
    w'.cell? ⟨g, o.to.toNat * 6 + 4, none⟩ = some (.int .i64 (at_ f o.to).parent) ∧ w'.cell? ⟨g, o.to.toNat * 6 + 5, none⟩ = some (.slice Ak (at_ f o.to).kids.length ck) := fun w' hw' => ⟨cell_grow hw' c0, cell_grow hw' c2, cell_grow hw' c3, cell_grow hw' k0, cell_grow hw' k1, cell_grow hw' k2, cell_grow hw' k3, cell_grow hw' k4, cell_grow hw' k5⟩
  rw [hto] at c3 k0 k1 k2 k3 k4 k5 hca hck hb hany hcc
  simp only [Int.toNat_natCast] at k0 k1 k2 k3 k4 k5 hcc
  have hb2 := hb
  have Hany := Lib.hid hany; have His := Lib.hid his; have Hb := Lib.hid hb2; have Hcc := Lib.hid hcc; have Hto := Lib.hid hto
  generalize (at_ f (t : Int)).kind = kd at *
  generalize (at_ f (t : Int)).name = nm at *
  generalize (at_ f (t : Int)).text = tx at *
  generalize (at_ f (t : Int)).parent = par at *
  generalize (at_ f (t : Int)).kids.length = nk at *
  generalize (at_ f (t : Int)).attrs.length = na at *
  clear hany his hb hb2 hcc h ra rk hkids hrk hfam hi ht hm hto hav
  go_enter Try.func120, Try.ntmps120
  go_wp2_with fail
  obtain ⟨bx, hbx⟩ : ∃ bx, bx = w.heap.size := ⟨_, rfl⟩
  obtain ⟨w1, hw1⟩ : ∃ w1, w.alloc (.cells #[.pointer (some ⟨wk, 0, none⟩)] 137) = w1 := ⟨_, rfl⟩
  have hb1 : Below w.heap.size w w1 := by rw [← hw1]; exact (Below.refl _ _).alloc (Nat.le_refl _) _
  have q : w1.cell? ⟨bx, 0, none⟩ = some (.pointer (some ⟨wk, 0, none⟩)) := by rw [← hw1, hbx]; exact (cell_of_row _ _ _ _ _ _ (World.alloc_heap_new _ _)).trans rfl
  have hbl : bx < w1.heap.size := by rw [← hw1, hbx]; simp
  rw [hw1, ← hbx]
  obtain ⟨p0, p2, p3, q0, q1, q2, q3, q4, q5⟩ := Hcc.out w1 hb1
  have Hb1 := Lib.hid hb1
  clear hb1 hw1 hbx c0 c1 c2 c3 c4 c5 c6 k0 k1 k2 k3 k4 k5
  go_region_held3 (fun w' => w'.cell? ⟨bx, 0, none⟩ = some (.pointer (some ⟨wk, 0, none⟩)) ∧ w'.cell? ⟨wk, 0, none⟩ = some (.slice (some ⟨g, 0, none⟩) f.length c) ∧ w'.cell? ⟨wk, 3, none⟩ = some (.int .i64 t) ∧ w'.cell? ⟨g, t * 6, none⟩ = some (.int .i64 kd) ∧ w'.cell? ⟨g, t * 6 + 1, none⟩ = some (.string nm) ∧ w'.cell? ⟨g, t * 6 + 2, none⟩ = some (.string tx) ∧ w'.cell? ⟨g, t * 6 + 3, none⟩ = some (.slice Aa na ca) ∧ w'.cell? ⟨g, t * 6 + 4, none⟩ = some (.int .i64 par) ∧ w'.cell? ⟨g, t * 6 + 5, none⟩ = some (.slice Ak nk ck))
    (first | exact ⟨q, p0, p3, q0, q1, q2, q3, q4, q5⟩ | go_keep)
    ((fail))
  rename_i hSS
  clear hSS
  obtain ⟨bt, hbt⟩ : ∃ bt, bt = w1.heap.size := ⟨_, rfl⟩
  obtain ⟨w2, hw2⟩ : ∃ w2, (w1.alloc (.cells #[.int .i64 kd, .string nm, .string tx, .slice Aa na ca, .int .i64 par, .slice Ak nk ck] 45)).drew = w2 := ⟨_, rfl⟩
  have hb12 : Below w1.heap.size w1 w2 := by rw [← hw2]; exact ((Below.refl _ _).alloc (Nat.le_refl _) _).drew
  have hb2 : Below w.heap.size w w2 := bthen Hb1.out hb12
  have e2 : w2.heap[bt]? = some (.cells #[.int .i64 kd, .string nm, .string tx, .slice Aa na ca, .int .i64 par, .slice Ak nk ck] 45 (0, 0)) := by rw [← hw2, hbt]; exact heap_alloc_new w1 _
  have r := cell_grow hb12 q
  have r0 : w2.cell? ⟨bt, 0, none⟩ = some (.int .i64 kd) := (cell_of_row _ _ _ _ _ _ e2).trans rfl
  have r5 : w2.cell? ⟨bt, 5, none⟩ = some (.slice Ak nk ck) := (cell_of_row _ _ _ _ _ _ e2).trans rfl
  have hb2l := lt_heap e2
  have hbl2 : bx < w2.heap.size := Nat.lt_of_lt_of_le hbl hb12.size
  rw [hw2, ← hbt]
  obtain ⟨s0, s2, s3, _, _, _, _, _, _⟩ := Hcc.out w2 hb2
  have Hb2 := Lib.hid hb2
  have Hbt2 := Lib.hid hb12
  clear hb2 hb12 hw2 hbt e2 q p0 p2 p3 q0 q1 q2 q3 q4 q5 Hcc Hb1
  have hbits := Hb.out
  by_cases h0 : o.id = 0
  · have e1 : (o.id == 0) = true := by rw [h0]; rfl
    have := hbits.1 h0
    subst this
    rw [h0] at s2
    clear hbits Hb h0 e1
    go_wp2_with fail
    go_ret
    exact ⟨rfl, Hb2.out⟩
  · have e1 : (o.id == 0) = false := by rw [beq_eq_false_iff_ne]; exact h0
    by_cases h1 : kd = 0 ∨ kd = 1
    · have hbb := hbits.2.2 h0 h1
      obtain ⟨ko, hko⟩ : ∃ ko, (at_ f o.id).kind = ko := ⟨_, rfl⟩
      rw [hko] at hbb His
      have Hbb := Lib.hid hbb
      have hi3 := His.out w2 Hb2.out 3 rfl
      have hi1 := fun w' (hw' : Below w2.heap.size w2 w') => His.out w' (bthen Hb2.out hw') 1 rfl
      have hany := fun w' (hw' : Below w2.heap.size w2 w') => Hany.out w' (bthen Hb2.out hw') bx (cell_grow hw' r)
      have hgrow := fun w' (hw' : Below w2.heap.size w2 w') => (⟨cell_grow hw' r, cell_grow hw' r5⟩ : w'.cell? ⟨bx, 0, none⟩ = some (.pointer (some ⟨wk, 0, none⟩)) ∧ w'.cell? ⟨bt, 5, none⟩ = some (.slice Ak nk ck))
      have Hi3 := Lib.hid hi3; have Hi1 := Lib.hid hi1; have Hany2 := Lib.hid hany; have Hgrow := Lib.hid hgrow
      clear hbits Hb hko hbb hi3 hi1 hany hgrow Hany His
      rcases h1 with rfl | rfl
      all_goals
        by_cases ht : (t : Int) = 0
        · obtain rfl : t = 0 := by omega
          cases h3 : (ko == 3) with
          | true =>
            have hfin : bb = true := by rw [Hbb.out, h3]; simp
            subst hfin
            rw [h3] at Hi3
            go_wp2_with (go_at_call 138; (with_reducible refine (Hi3.out).mono ?_); rintro e w5 ⟨rfl, hb5⟩; have Hb5 := Lib.hid hb5; clear hb5)
            go_ret
            exact ⟨rfl, bthen Hb2.out (bthen ((Below.refl _ _).alloc (Nat.le_refl _) _) Hb5.out)⟩
          | false =>
            rw [h3] at Hi3
            cases h4 : (ko == 1) with
            | false =>
              have hfin : bb = false := by rw [Hbb.out, h3, h4]; simp
              subst hfin
              rw [h4] at Hi1
              go_wp2_with (first
                | (go_at_call 138; (with_reducible refine (Hi3.out).mono ?_); rintro e w5 ⟨rfl, hb5⟩; have hb6 := bthen ((Below.refl _ _).alloc (Nat.le_refl _) _) hb5; obtain ⟨u0, u5⟩ := Hgrow.out w5 hb6; have Hb6 := Lib.hid hb6; clear hb5 hb6)
                | (go_at_call 138; (with_reducible refine (Hi1.out _ Hb6.out).mono ?_); rintro e w7 ⟨rfl, hb7⟩; have Hb7 := Lib.hid hb7; clear hb7))
              go_ret
              exact ⟨rfl, bthen Hb2.out (bthen Hb6.out (bthen ((Below.refl _ _).alloc (Nat.le_refl _) _) Hb7.out))⟩
            | true =>
              have hfin : bb = !av := by rw [Hbb.out, h3, h4]; simp
              subst hfin
              rw [h4] at Hi1
              go_wp2_with (first
                | (go_at_call 138; (with_reducible refine (Hi3.out).mono ?_); rintro e w5 ⟨rfl, hb5⟩; have hb6 := bthen ((Below.refl _ _).alloc (Nat.le_refl _) _) hb5; obtain ⟨u0, u5⟩ := Hgrow.out w5 hb6; have Hb6 := Lib.hid hb6; clear hb5 hb6)
                | (go_at_call 138; (with_reducible refine (Hi1.out _ Hb6.out).mono ?_); rintro e w7 ⟨rfl, hb7⟩; have hb8 := bthen Hb6.out (bthen ((Below.refl _ _).alloc (Nat.le_refl _) _) hb7); obtain ⟨v0, v5⟩ := Hgrow.out w7 hb8; have Hb8 := Lib.hid hb8; clear hb7 hb8)
                | (go_at_call 150; (with_reducible refine (Hany2.out _ Hb8.out).mono ?_); rintro e w9 ⟨rfl, rfl⟩))
              go_ret
              exact ⟨rfl, bthen Hb2.out Hb8.out⟩
        · have e5 : ((t : Int) != 0) = true := by rw [bne_iff_ne]; exact ht
          have hfin : bb = true := by rw [Hbb.out, decide_eq_true ht]; simp
          subst hfin
          go_wp2_with fail
          go_ret
          exact ⟨rfl, Hb2.out⟩
    · have n0 : kd ≠ 0 := fun h => h1 (.inl h)
      have n1 : kd ≠ 1 := fun h => h1 (.inr h)
      have := hbits.2.1 n0 n1
      subst this
      have e3 : (kd != 0) = true := by rw [bne_iff_ne]; exact n0
      have e4 : (kd != 1) = true := by rw [bne_iff_ne]; exact n1
      clear hbits Hb
      go_wp2_with fail
      go_ret
      exact ⟨rfl, Hb2.out⟩
end
end Go.Proofs.Ytbbompmpecblgaa.Work
end
section
/- apply.One: its checks and its doings, all of them. -/
namespace Go.Proofs.Ytbbompmpecblgaa.Doings
open Go Go.RowKit Go.Proofs.Ytbbompmpecblgaa.Seq Go.Proofs.Ytbbompmpecblgaa.WS Go.Proofs.Ytbbompmpecblgaa.FS Go.Proofs.Ytbbompmpecblgaa.Mem Go.Proofs.Ytbbompmpecblgaa.Rd Go.Proofs.Ytbbompmpecblgaa.Shapes Go.Proofs.Ytbbompmpecblgaa.OwnF Go.Proofs.Ytbbompmpecblgaa.Work
set_option linter.unusedVariables false
set_option linter.unusedSimpArgs false

noncomputable def ckL (f : Fo) (o : Opn) : Nat → List Ck
  | 1 => [⟨74, 112, namedB o⟩, ⟨2, 113, roomB f⟩]
  | 2 => [⟨74, 116, textedB o⟩, ⟨2, 113, roomB f⟩]
  | 3 => [⟨74, 116, textedB o⟩, ⟨2, 113, roomB f⟩]
  | 4 => [⟨70, 111, knownB f o⟩, ⟨70, 119, isNode f o.to⟩, ⟨71, 120, liesB f o⟩, ⟨72, 121, !belowB f o.id o.to⟩, ⟨73, 122, fitsB f o⟩]
  | 5 => [⟨70, 111, knownB f o⟩, ⟨71, 127, o.id != 0⟩, ⟨3, 128, (at_ f o.id).parent != -1⟩]
  | 6 => [⟨70, 111, knownB f o⟩, ⟨71, 129, elemB f o⟩, ⟨74, 112, namedB o⟩, ⟨75, 130, hasA f o || decide ((at_ f o.id).attrs.length < 8)⟩]
  | 7 => [⟨70, 111, knownB f o⟩, ⟨71, 129, elemB f o⟩, ⟨75, 133, hasA f o⟩]
  | _ => [⟨70, 111, knownB f o⟩, ⟨71, 137, (at_ f o.id).kind == 2 || (at_ f o.id).kind == 3⟩, ⟨74, 116, textedB o⟩]
theorem kinds8 {k : Nat} (h1 : 1 ≤ k) (h8 : k ≤ 8) : k = 1 ∨ k = 2 ∨ k = 3 ∨ k = 4 ∨ k = 5 ∨ k = 6 ∨ k = 7 ∨ k = 8 := by omega
theorem ck_row (f : Fo) (o : Opn) {k : Nat} (h1 : 1 ≤ k) (h8 : k ≤ 8) : rowsD k = (ckRow (ckL f o k)).toArray ∧ lenD k = (ckL f o k).length := by
  rcases kinds8 h1 h8 with rfl | rfl | rfl | rfl | rfl | rfl | rfl | rfl <;> exact ⟨rfl, rfl⟩
theorem ck_first (f : Fo) (o : Opn) {k : Nat} (h1 : 1 ≤ k) (h8 : k ≤ 8) (hk : o.kind = k) : firstC (ckL f o k) = firstE (checks f o) := by
  unfold checks
  rcases kinds8 h1 h8 with rfl | rfl | rfl | rfl | rfl | rfl | rfl | rfl
  all_goals
    simp only [hk]
    rfl
def allK : List Nat := [112, 113, 116, 111, 119, 120, 121, 122, 127, 128, 129, 130, 133, 137, 114, 117, 118, 123, 124, 132, 134, 139]
theorem enters_all : ∀ K ∈ allK, ∀ args w, (callFunc K args).run Try.prog w = .ok (.enter K args) w := by
  intro K hK
  simp only [allK, List.mem_cons, List.not_mem_nil, or_false] at hK
  rcases hK with rfl | rfl | rfl | rfl | rfl | rfl | rfl | rfl | rfl | rfl | rfl | rfl | rfl | rfl | rfl | rfl | rfl | rfl | rfl | rfl | rfl | rfl
  · exact enters_of Try.func112 (by kernel_rfl) rfl
  · exact enters_of Try.func113 (by kernel_rfl) rfl
  · exact enters_of Try.func116 (by kernel_rfl) rfl
  · exact enters_of Try.func111 (by kernel_rfl) rfl
  · exact enters_of Try.func119 (by kernel_rfl) rfl
  · exact enters_of Try.func120 (by kernel_rfl) rfl
  · exact enters_of Try.func121 (by kernel_rfl) rfl
  · exact enters_of Try.func122 (by kernel_rfl) rfl
  · exact enters_of Try.func127 (by kernel_rfl) rfl
  · exact enters_of Try.func128 (by kernel_rfl) rfl
  · exact enters_of Try.func129 (by kernel_rfl) rfl
  · exact enters_of Try.func130 (by kernel_rfl) rfl
  · exact enters_of Try.func133 (by kernel_rfl) rfl
  · exact enters_of Try.func137 (by kernel_rfl) rfl
  · exact enters_of Try.func114 (by kernel_rfl) rfl
  · exact enters_of Try.func117 (by kernel_rfl) rfl
  · exact enters_of Try.func118 (by kernel_rfl) rfl
  · exact enters_of Try.func123 (by kernel_rfl) rfl
  · exact enters_of Try.func124 (by kernel_rfl) rfl
  · exact enters_of Try.func132 (by kernel_rfl) rfl
  · exact enters_of Try.func134 (by kernel_rfl) rfl
  · exact enters_of Try.func139 (by kernel_rfl) rfl
theorem ck_K (f : Fo) (o : Opn) {k : Nat} (h1 : 1 ≤ k) (h8 : k ≤ 8) : ∀ K ∈ (ckL f o k).map Ck.K, K ∈ allK := by
  rcases kinds8 h1 h8 with rfl | rfl | rfl | rfl | rfl | rfl | rfl | rfl
  all_goals
    simp only [ckL, List.map_cons, List.map_nil]
    decide
theorem ck_enters (f : Fo) (o : Opn) {k : Nat} (h1 : 1 ≤ k) (h8 : k ≤ 8) : ∀ x ∈ ckL f o k, ∀ args w, (callFunc x.K args).run Try.prog w = .ok (.enter x.K args) w :=
  fun x hx => enters_all x.K (ck_K f o h1 h8 _ (List.mem_map_of_mem hx))
theorem do_enters {k : Nat} (h1 : 1 ≤ k) (h8 : k ≤ 8) : ∀ args w, (callFunc (doD k) args).run Try.prog w = .ok (.enter (doD k) args) w := by
  refine enters_all (doD k) ?_
  rcases kinds8 h1 h8 with rfl | rfl | rfl | rfl | rfl | rfl | rfl | rfl <;> decide
section
variable {base wk g c : Nat} {o : Opn} {f : Fo}
theorem ck_chk (hm : mayB f = true) {k : Nat} (h1 : 1 ≤ k) (h8 : k ≤ 8) : ∀ i (hi : i < (ckL f o k).length), (∀ j (hj : j < (ckL f o k).length), j < i → (ckL f o k)[j].b = true) → Chk (ckL f o k)[i].K base wk g c o f (ckL f o k)[i].b := by
  intro i hi hb
  rcases kinds8 h1 h8 with rfl | rfl | rfl | rfl | rfl | rfl | rfl | rfl
  · rcases (show i = 0 ∨ i = 1 by have : i < 2 := hi; omega) with rfl | rfl
    · exact named_chk
    · exact room_chk
  · rcases (show i = 0 ∨ i = 1 by have : i < 2 := hi; omega) with rfl | rfl
    · exact texted_chk
    · exact room_chk
  · rcases (show i = 0 ∨ i = 1 by have : i < 2 := hi; omega) with rfl | rfl
    · exact texted_chk
    · exact room_chk
  · rcases (show i = 0 ∨ i = 1 ∨ i = 2 ∨ i = 3 ∨ i = 4 by have : i < 5 := hi; omega) with rfl | rfl | rfl | rfl | rfl
    · exact known_chk
    · exact to_chk
    · exact lies_chk hm (hb 0 (by simp [ckL]) (by decide)) (hb 1 (by simp [ckL]) (by decide))
    · exact cycle_chk hm
    · exact fits_chk (hb 0 (by simp [ckL]) (by decide)) (hb 1 (by simp [ckL]) (by decide))
  · rcases (show i = 0 ∨ i = 1 ∨ i = 2 by have : i < 3 := hi; omega) with rfl | rfl | rfl
    · exact known_chk
    · exact zero_chk
    · exact parent_chk (hb 0 (by simp [ckL]) (by decide))
  · rcases (show i = 0 ∨ i = 1 ∨ i = 2 ∨ i = 3 by have : i < 4 := hi; omega) with rfl | rfl | rfl | rfl
    · exact known_chk
    · exact element_chk (hb 0 (by simp [ckL]) (by decide))
    · exact named_chk
    · exact sets_chk (hb 0 (by simp [ckL]) (by decide))
  · rcases (show i = 0 ∨ i = 1 ∨ i = 2 by have : i < 3 := hi; omega) with rfl | rfl | rfl
    · exact known_chk
    · exact element_chk (hb 0 (by simp [ckL]) (by decide))
    · exact has_chk (hb 0 (by simp [ckL]) (by decide))
  · rcases (show i = 0 ∨ i = 1 ∨ i = 2 by have : i < 3 := hi; omega) with rfl | rfl | rfl
    · exact known_chk
    · exact texts_chk (hb 0 (by simp [ckL]) (by decide))
    · exact texted_chk
theorem attrs_le (hm : mayB f = true) {i : Int} (hi : isNode f i = true) : (at_ f i).attrs.length ≤ 8 := by
  obtain ⟨n, rfl, hn⟩ := node_nat hi
  have h := ((may_is hm).node n hn).1
  unfold plainB at h
  split at h
  · simp only [Bool.and_eq_true, decide_eq_true_eq] at h
    rw [h.2]; simp
  · split at h
    · simp only [Bool.and_eq_true] at h
      exact ((attrsB_iff _).1 h.2).2.2
    · split at h
      · simp only [Bool.and_eq_true, decide_eq_true_eq] at h
        rw [h.1.2]; simp
      · cases h
theorem do_all (hm : mayB f = true) {k : Nat} (h1 : 1 ≤ k) (h8 : k ≤ 8) (hk : o.kind = k) (hch : ∀ c ∈ checks f o, c.2 = true) (hn : o.name.size ≤ maxLen) (ht : o.text.size ≤ maxLen) (hw1 : (Lit.int .i64 o.id).wf = true) (hw2 : (Lit.int .i64 o.to).wf = true) (hbw : base ≤ wk) :
    Do (doD k) base wk g c o f (doF f o) := by
  have hl := may_len hm
  unfold checks at hch
  unfold doF
  rcases kinds8 h1 h8 with rfl | rfl | rfl | rfl | rfl | rfl | rfl | rfl
  · rw [if_pos (by omega)]
    exact fresh1_do (by omega) (by omega) hn ht hbw (by omega)
  · rw [if_pos (by omega)]
    exact fresh2_do (by omega) (by omega) hn ht hbw (by omega)
  · rw [if_pos (by omega)]
    exact fresh3_do (by omega) (by omega) hn ht hbw (by omega)
  · rw [if_neg (by omega), if_pos (by omega)]
    rw [if_neg (by omega), if_neg (by omega), if_pos (by omega)] at hch
    exact insert_do hm (hch (70, knownB f o) (by simp)) (hch (70, isNode f o.to) (by simp)) (hch (73, fitsB f o) (by simp)) hw1 hw2 hbw
  · rw [if_neg (by omega), if_neg (by omega), if_pos (by omega)]
    rw [if_neg (by omega), if_neg (by omega), if_neg (by omega), if_pos (by omega)] at hch
    exact take_do hm (hch (70, knownB f o) (by simp)) hbw
  · rw [if_neg (by omega), if_neg (by omega), if_neg (by omega), if_pos (by omega)]
    rw [if_neg (by omega), if_neg (by omega), if_neg (by omega), if_neg (by omega), if_pos (by omega)] at hch
    have hi := hch (70, knownB f o) (by simp)
    exact set_do hm hi (attrs_le hm hi) hn ht hbw
  · rw [if_neg (by omega), if_neg (by omega), if_neg (by omega), if_neg (by omega), if_pos (by omega)]
    rw [if_neg (by omega), if_neg (by omega), if_neg (by omega), if_neg (by omega), if_neg (by omega), if_pos (by omega)] at hch
    have hi := hch (70, knownB f o) (by simp)
    exact unset_do hi (attrs_le hm hi) (hch (75, hasA f o) (by simp))
  · rw [if_neg (by omega), if_neg (by omega), if_neg (by omega), if_neg (by omega), if_neg (by omega)]
    rw [if_neg (by omega), if_neg (by omega), if_neg (by omega), if_neg (by omega), if_neg (by omega), if_neg (by omega)] at hch
    exact change_do (hch (70, knownB f o) (by simp)) ht
end
end Go.Proofs.Ytbbompmpecblgaa.Doings
end
section
/- apply.One: one operation. -/
namespace Go.Proofs.Ytbbompmpecblgaa.Doings
open Go Go.RowKit Go.Proofs.Ytbbompmpecblgaa.Seq Go.Proofs.Ytbbompmpecblgaa.WS Go.Proofs.Ytbbompmpecblgaa.FS Go.Proofs.Ytbbompmpecblgaa.Mem Go.Proofs.Ytbbompmpecblgaa.Rd Go.Proofs.Ytbbompmpecblgaa.Shapes Go.Proofs.Ytbbompmpecblgaa.OwnF Go.Proofs.Ytbbompmpecblgaa.Work
set_option linter.unusedVariables false
set_option linter.unusedSimpArgs false

def CloneFPost (f : Fo) (w : World) (e : Ending) (w' : World) : Prop := ∃ g c, e = .returned (.slice (some ⟨g, 0, none⟩) f.length c) ∧ OwnF 45 w.heap.size w' (.slice (some ⟨g, 0, none⟩) f.length c) f ∧ Below w.heap.size w w' ∧ f.length ≤ c ∧ c ≤ maxLen
set_option maxRecDepth 100000 in
set_option maxHeartbeats 2000000 in
theorem cloneF_calls (w : World) (v : Value) (f : Fo) (h : RdF w.heap.size w v f) (h0 : 0 < f.length) (hl : f.length ≤ 1000) : Calls Try.prog 93 #[v] w (CloneFPost f w) := by
  obtain ⟨A, c, rfl, hc, hm, hr⟩ := h.form
  obtain ⟨b, off, cs, rfl, _⟩ := hr.at_ h0
  have q22 : ∀ (w : World) (a : Option Addr) (n c n' c' : Nat), (binOp .eql 33 (.slice a n c) (.slice none n' c')).run Try.prog w = .ok (.bool a.isNone) w := fun w a n c n' c' => Lib.run_eql_slice_nil w _ _ a n c n' c' Try.underlying33
  have Hr := Lib.hid hr
  clear h hr
  go_enter Try.func93, Try.ntmps93
  go_wp2_with (at_builtin; go_loud (refine LKinds.pl_clone w rfl _ _ rfl _ _ f rfl rfl Hr.out h0 hl ?_; intro g7 cap7 w7 hown7 hb7 hg7 hlt7; have Hown7 := Lib.hid hown7; have Hb7 := Lib.hid hb7; clear hown7 hb7))
  go_ret
  obtain ⟨_, _, e, _, _, _, h1, h2⟩ := Hown7.out.form h0
  injection e with _ _ e
  subst e
  exact ⟨_, _, rfl, Hown7.out, Hb7.out, h1, h2⟩
def OnePost (f : Fo) (o : Opn) (w : World) (e : Ending) (w' : World) : Prop := ∃ v', e = .returned (.tuple #[v', .int .i64 (oneE f o)]) ∧ RdF w'.heap.size w' v' (oneF f o) ∧ Below w.heap.size w w'
def DPost (N k : Nat) (w0 : World) (e : Ending) (w' : World) : Prop := e = .returned (.map (some (N + 1))) ∧ Below w0.heap.size w0 w' ∧ w'.heap[N + 1]? = some (.map ((esD N 8).map mkV).toArray 8) ∧ w'.heap[N + 1 + k]? = some (.cells (rowsD k) 171 (0, 0))
theorem one_bad {f : Fo} {o : Opn} (h : oneE f o ≠ 0) : oneF f o = f := by unfold oneF; rw [if_neg h]
set_option maxRecDepth 100000 in
set_option maxHeartbeats 8000000 in
theorem one_calls (w : World) (v : Value) (f : Fo) (o : Opn) (h : RdF w.heap.size w v f) (hm : mayB f = true) (hn : o.name.size ≤ maxLen) (ht : o.text.size ≤ maxLen) (hw1 : (Lit.int .i64 o.id).wf = true) (hw2 : (Lit.int .i64 o.to).wf = true) :
    Calls Try.prog 74 #[v, .agg #[.int .i64 o.kind, .int .i64 o.id, .int .i64 o.to, .int .i64 o.at_, .string o.name, .string o.text]] w (OnePost f o w) := by
  have hlen := may_len hm
  obtain ⟨w0, hw0⟩ : ∃ w0, w.alloc (.cells #[.int .i64 o.kind, .int .i64 o.id, .int .i64 o.to, .int .i64 o.at_, .string o.name, .string o.text] 101) = w0 := ⟨_, rfl⟩
  have hrow : w0.heap[w.heap.size]? = some (.cells (OpMay.opRow o) 101 (0, 0)) := by rw [← hw0]; exact World.alloc_heap_new w _
  have hb0 : Below w.heap.size w w0 := by rw [← hw0]; exact (Below.refl _ _).alloc (Nat.le_refl _) _
  have hs0 : w0.heap.size = w.heap.size + 1 := by rw [← hw0]; simp
  have hcell := fun w' (hb : Below w0.heap.size w0 w') => OpMay.op_cells ((hb.block w.heap.size (by omega)).trans hrow)
  have hop := OpMay.opMay_calls o w0
  have hrd := fun w' (hb : Below w.heap.size w w') => (h.below nodeE_keeps (w' := w') hb (Nat.le_refl _)).mono nodeE_keeps hb.size
  obtain ⟨A0, n0, rfl, hl0, hc0, _⟩ := h.form
  obtain ⟨c0, c1, c2, c3, c4, c5, cf⟩ := OpMay.op_cells hrow
  have Hw0 := Lib.hid hw0; have Hb0 := Lib.hid hb0; have Hcell := Lib.hid hcell; have Hrd := Lib.hid hrd; have Hs0 := Lib.hid hs0
  unfold OpMay.OpMayPost at hop
  cases hmo : mayO o with
  | false =>
    rw [hmo] at hop
    have he : oneE f o = 1 := by unfold oneE; rw [hmo]; rfl
    have hf := one_bad (f := f) (o := o) (by rw [he]; decide)
    have He := Lib.hid he; have Hf := Lib.hid hf; have Hop := Lib.hid hop
    clear hw0 hb0 hcell hrd hop hrow h he hf hmo hs0
    go_enter Try.func74, Try.ntmps74
    go_upto_region 1 with (fail)
    rw [Hw0.out]
    go_wp2_with (go_at_call 92; ((with_reducible refine (Hop.out).mono ?_); rintro e w5 ⟨rfl, hb5⟩; have Hb5 := Lib.hid hb5; clear hb5))
    go_ret2
    exact ⟨_, by rw [He.out]; rfl, by rw [Hf.out]; exact Hrd.out _ (bthen Hb0.out Hb5.out), bthen Hb0.out Hb5.out⟩
  | true =>
    rw [hmo] at hop
    have hk := (mayO_kind hmo).1
    obtain ⟨k, hko⟩ : ∃ k : Nat, o.kind = k := ⟨o.kind.toNat, by omega⟩
    have h1k : 1 ≤ k := by omega
    have h8 : k ≤ 8 := by omega
    have hclo := fun w' (hb : Below w.heap.size w w') => cloneF_calls w' _ f (Hrd.out w' hb) (by omega) (by omega)
    have Hop := Lib.hid hop; have Hclo := Lib.hid hclo; have Hko := Lib.hid hko; have Hmo := Lib.hid hmo; have Hm := Lib.hid hm
    clear hw0 hb0 hcell hrd hop hrow h hclo hko hmo hm hs0 hk
    go_enter Try.func74, Try.ntmps74
    go_upto_region 1 with (fail)
    rw [Hw0.out]
    go_upto_region 3 with (go_at_call 92; ((with_reducible refine (Hop.out).mono ?_); rintro e w5 ⟨rfl, hb5⟩; have Hb5 := Lib.hid hb5; clear hb5))
    obtain ⟨d0, d1, d2, d3, d4, d5, df⟩ := Hcell.out _ Hb5.out
    have hb5 := bthen Hb0.out Hb5.out
    have hclo5 : ∀ W, (W = w5 ∨ W = w5.drew) → Calls Try.prog 93 #[.slice A0 f.length n0] W (fun e w' => ∃ g c, e = .returned (.slice (some ⟨g, 0, none⟩) f.length c) ∧ OwnF 45 w5.heap.size w' (.slice (some ⟨g, 0, none⟩) f.length c) f ∧ Below w5.heap.size w5 w' ∧ f.length ≤ c ∧ c ≤ maxLen) := by
      rintro W (rfl | rfl)
      · exact Hclo.out _ hb5
      · exact (Hclo.out _ (hb5.trans (Below.refl _ _).drew)).mono (fun e w' ⟨g, c, h1, h2, h3, h4⟩ => ⟨g, c, h1, h2, (Below.refl _ w5).drew.trans h3, h4⟩)
    have hcell5 := fun w' (hb : Below w5.heap.size w5 w') => Hcell.out w' (bthen Hb5.out hb)
    have Hclo5 := Lib.hid hclo5; have Hcell5 := Lib.hid hcell5; have HB5 := Lib.hid hb5
    clear hclo5 hcell5 hb5 c0 c1 c2 c3 c4 c5 cf Hclo Hcell
    go_region_held3 (fun w' => w'.cell? ⟨w.heap.size, 0, none⟩ = some (.int .i64 o.kind) ∧ w'.cell? ⟨w.heap.size, 1, none⟩ = some (.int .i64 o.id) ∧ w'.cell? ⟨w.heap.size, 2, none⟩ = some (.int .i64 o.to) ∧ w'.cell? ⟨w.heap.size, 3, none⟩ = some (.int .i64 o.at_) ∧ w'.cell? ⟨w.heap.size, 4, none⟩ = some (.string o.name) ∧ w'.cell? ⟨w.heap.size, 5, none⟩ = some (.string o.text))
      (first | exact ⟨d0, d1, d2, d3, d4, d5⟩ | exact ⟨e0, e1, e2, e3, e4, e5⟩ | go_keep)
      (first | (go_at_call 93; ((first | (with_reducible refine (Hclo5.out _ (.inl rfl)).mono ?_) | (with_reducible refine (Hclo5.out _ (.inr rfl)).mono ?_)); rintro e w6 ⟨g6, n6, rfl, ho6, hb6, hc6, hc6m⟩; obtain ⟨e0, e1, e2, e3, e4, e5, ef⟩ := Hcell5.out _ hb6; have Ho6 := Lib.hid ho6; have Hb6 := Lib.hid hb6; clear ho6 hb6)))
    obtain ⟨g', n', e', hgb6, hgl6, _⟩ := Ho6.out.form (by omega)
    injection e' with e' _ e2
    injection e' with e'
    injection e' with e'
    subst e' e2
    obtain ⟨w7, hw7⟩ : ∃ w7, w6.alloc (.cells #[.slice (some ⟨g6, 0, none⟩) f.length n6, .int .i64 o.kind, .int .i64 o.id, .int .i64 o.to, .int .i64 o.at_, .string o.name, .string o.text] 140) = w7 := ⟨_, rfl⟩
    have hs5 := HB5.out.size
    have hs6 := Hb6.out.size
    have hb7 : Below w6.heap.size w6 w7 := by rw [← hw7]; exact (Below.refl _ _).alloc (Nat.le_refl _) _
    have hown : OwnF 45 w.heap.size w6 (.slice (some ⟨g6, 0, none⟩) f.length n6) f := by
      obtain ⟨xs, h1, h2⟩ := Ho6.out
      exact ⟨xs, own_base h1 hs5, h2⟩
    have hW7 : Wk w.heap.size w6.heap.size g6 n6 o f w7 := by
      refine ⟨by rw [← hw7]; exact World.alloc_heap_new w6 _, (OwnX.of_own hown (fun b hb => by show b ≠ w6.heap.size; omega)).below hb7, by omega, by simp only [maxLen] at hc6m; omega⟩
    have hbw7 : Below w.heap.size w w7 := bthen (bthen HB5.out Hb6.out) hb7
    have hcell7 := fun w' (hb : Below w7.heap.size w7 w') => (Hcell5.out w' (bthen (bthen Hb6.out hb7) hb)).1
    have hdo7 : ∀ W, (W = w7 ∨ W = w7.drew) → Calls Try.prog 94 #[] W (DPost w7.heap.size k w7) := by
      rintro W (rfl | rfl)
      · exact (doings_calls _).mono (fun e w' ⟨he, hd⟩ => ⟨he, hd.below, hd.map, hd.rows k h1k h8⟩)
      · exact (doings_calls w7.drew).mono (fun e w' ⟨he, hd⟩ => ⟨he, (Below.refl _ w7).drew.trans hd.below, hd.map, hd.rows k h1k h8⟩)
    have hlk : ∀ N W, W.heap[N + 1]? = some (.map ((esD N 8).map mkV).toArray 8) → (Instr.lookup 145 (.map (some (N + 1))) (.int .i64 o.kind) false).run Try.prog W = .ok (.agg #[.slice (some ⟨N + 1 + k, 0, none⟩) (lenD k) (lenD k), fnV (doD k)]) W := fun N W hW => by
      rw [Hko.out]
      exact run_lookup Try.underlying145 Try.underlying3 hW (k : Int) (valD N k) (esD_find _ 8 k h1k h8)
    have hdoB : Calls Try.prog 94 #[] (w7.alloc (.cells #[.slice none 0 0, Value.nilFunc] 144)).drew (fun e w' => DPost (w7.heap.size + 1) k w7 e w' ∧ w'.heap[w7.heap.size]? = some (.cells #[.slice none 0 0, Value.nilFunc] 144 (0, 0))) := by
      refine (doings_calls _).mono (fun e w' ⟨he, hd⟩ => ?_)
      have e1 : (w7.alloc (.cells #[.slice none 0 0, Value.nilFunc] 144)).drew.heap.size = w7.heap.size + 1 := World.size_alloc _ _
      have h1 : Below w7.heap.size w7 (w7.alloc (.cells #[.slice none 0 0, Value.nilFunc] 144)).drew := ((Below.refl _ _).alloc (Nat.le_refl _) _).drew
      rw [e1] at he hd
      exact ⟨⟨he, h1.trans (hd.below.mono (Nat.le_succ _)), hd.map, hd.rows k h1k h8⟩, (hd.below.block _ (by omega)).trans (World.alloc_heap_new w7 _)⟩
    have e7 := hcell7 w7 (Below.refl _ _)
    have hwl : ¬ (w.heap.size = w7.heap.size) := by have h1 := hb7.size; have h2 := Hb5.out.size; have h3 := Hs0.out; have h4 := Hb6.out.size; omega
    have hsf := store_func
    have HW7 := Lib.hid hW7; have Hbw7 := Lib.hid hbw7; have Hcell7 := Lib.hid hcell7; have Hdo7 := Lib.hid hdo7; have HdoB := Lib.hid hdoB; have Hlk := Lib.hid hlk
    rw [hw7]
    go_upto_region 4 with (fail)
    clear hW7 hbw7 hcell7 hdo7 hdoB hlk hw7 hb7 hown Ho6 Hb6 HB5 Hcell5 Hclo5 d0 d1 d2 d3 d4 d5 df e0 e1 e2 e3 e4 e5 ef
    go_cut [7] from 9 (fun s7 wx => ∃ D b : Nat, s7 = .pointer (some ⟨D, 0, none⟩) ∧ wx.heap[D]? = some (.cells #[.slice (some ⟨b, 0, none⟩) (lenD k) (lenD k), fnV (doD k)] 144 (0, 0)) ∧ wx.heap[b]? = some (.cells (rowsD k) 171 (0, 0)) ∧ Below w7.heap.size w7 wx)
    case first =>
     go_region_held3 (fun w' => w'.cell? ⟨w.heap.size, 0, none⟩ = some (.int .i64 o.kind))
       (first | exact e7 | exact e8 | exact (World.cell?_of_block ((Below.heap_setCell _ _ _ _ (fun e => hwl (by exact e))).trans (Below.heap_setCell _ _ _ _ (fun e => hwl (by exact e))))).trans e8 | go_keep)
       (first
         | (go_at_call 94; ((first | (with_reducible refine (Hdo7.out _ (.inl rfl)).mono ?_) | (with_reducible refine (Hdo7.out _ (.inr rfl)).mono ?_)); rintro e w8 ⟨rfl, hd8⟩; have e8 := Hcell7.out _ hd8.1; have l8 := Hlk.out _ w8 hd8.2.1; have l8d := Hlk.out _ w8.drew hd8.2.1; have l8a := Hlk.out _ (w8.alloc (.cells #[.slice none 0 0, Value.nilFunc] 144)) (heap_old hd8.2.1); have l8b := Hlk.out _ (w8.alloc (.cells #[.slice none 0 0, Value.nilFunc] 144)).drew (heap_old hd8.2.1); have Hd8 := Lib.hid hd8; clear hd8))
         | (go_at_call 94; ((with_reducible refine (HdoB.out).mono ?_); rintro e w8 ⟨⟨rfl, hd8⟩, hz8⟩; have e8 := Hcell7.out _ hd8.1; have l8 := Hlk.out _ w8 hd8.2.1; have l8d := Hlk.out _ w8.drew hd8.2.1; have l8a := Hlk.out _ (w8.alloc (.cells #[.slice none 0 0, Value.nilFunc] 144)) (heap_old hd8.2.1); have l8b := Hlk.out _ (w8.alloc (.cells #[.slice none 0 0, Value.nilFunc] 144)).drew (heap_old hd8.2.1); have z8 : w8.cell? ⟨w7.heap.size, 0, none⟩ = some (.slice none 0 0) := (cell_of_row _ _ _ _ _ _ hz8).trans rfl; have z9 : w8.cell? ⟨w7.heap.size, 1, none⟩ = some Value.nilFunc := (cell_of_row _ _ _ _ _ _ hz8).trans rfl; have zf := free_of hz8; have Hd8 := Lib.hid hd8; have Hz8 := Lib.hid hz8; clear hd8 hz8)))
     all_goals
       go_wp2_with fail
       go_meet
       first
         | exact ⟨w8.heap.size, w7.heap.size + 1 + k, rfl, World.alloc_heap_new w8 _, heap_old Hd8.out.2.2, Hd8.out.1.alloc Hd8.out.1.size _⟩
         | exact ⟨w7.heap.size, w7.heap.size + 1 + 1 + k, rfl, (Repl.setCell_row (Repl.setCell_row Hz8.out)).trans rfl, (Below.heap_setCell _ _ _ _ (fun e => by have e2 : w7.heap.size + 1 + 1 + k = w7.heap.size := e; omega)).trans ((Below.heap_setCell _ _ _ _ (fun e => by have e2 : w7.heap.size + 1 + 1 + k = w7.heap.size := e; omega)).trans Hd8.out.2.2), (Hd8.out.1.setCell (Nat.le_refl _) _).setCell (Nat.le_refl _) _⟩
    case rest =>
     obtain ⟨D, b, rfl, hD, hR, hB⟩ := hcut
     have t0 : wc.cell? ⟨D, 0, none⟩ = some (.slice (some ⟨b, 0, none⟩) (lenD k) (lenD k)) := (cell_of_row _ _ _ _ _ _ hD).trans rfl
     have t1 : wc.cell? ⟨D, 1, none⟩ = some (fnV (doD k)) := (cell_of_row _ _ _ _ _ _ hD).trans rfl
     have hWc := HW7.out.below hB
     obtain ⟨r1, r2⟩ := ck_row f o h1k h8
     rw [r1] at hR
     have hl5 : (ckL f o k).length ≤ 100 := by rw [← r2]; rcases kinds8 h1k h8 with rfl | rfl | rfl | rfl | rfl | rfl | rfl | rfl <;> decide
     have hfi := first_calls (ckL f o k) b wc hWc hR hl5 (ck_enters f o h1k h8) (ck_chk Hm.out h1k h8)
     rw [ck_first f o h1k h8 Hko.out, ← r2] at hfi
     have hE : oneE f o = firstE (checks f o) := by unfold oneE; rw [Hmo.out]; rfl
     have hbc : Below w.heap.size w wc := bthen Hbw7.out hB
     have hgr := fun w' (hb : Below wc.heap.size wc w') => cell_grow hb t1
     have hrdc := fun w' (hb : Below wc.heap.size wc w') => Hrd.out w' (bthen hbc hb)
     have heg := do_enters h1k h8
     have Hbc := Lib.hid hbc; have HE := Lib.hid hE; have Hgr := Lib.hid hgr; have Hrdc := Lib.hid hrdc; have HWc := Lib.hid hWc
     obtain ⟨E, hEq⟩ : ∃ E, firstE (checks f o) = E := ⟨_, rfl⟩
     have HEq := Lib.hid hEq
     rw [hEq] at hfi
     have Hfi := Lib.hid hfi
     clear hD hR hB hWc r1 r2 hl5 hfi hE hbc hgr hrdc hEq e7 hsf
     by_cases hE0 : E = 0
     · have hdo := do_all (base := w.heap.size) (wk := w6.heap.size) (g := g6) (c := n6) Hm.out h1k h8 Hko.out (first_zero _ (checks_ne f o) (HEq.out.trans hE0)) hn ht hw1 hw2 (by have := Hb5.out.size; have := Hs0.out; omega)
       have hof : oneF f o = doF f o := by unfold oneF; rw [if_pos (HE.out.trans (HEq.out.trans hE0))]
       have hdo2 : ∀ w', Wk w.heap.size w6.heap.size g6 n6 o f w' → Calls Try.prog (doD k) #[.pointer (some ⟨w6.heap.size, 0, none⟩)] w' (DoPost w.heap.size w6.heap.size o (doF f o) w') := fun w' h' => hdo w' h'
       have Hdo := Lib.hid hdo2; have Hof := Lib.hid hof
       subst hE0
       clear hdo hof hdo2
       go_wp2_with (first
         | (go_at_call 95; ((with_reducible refine (Hfi.out).mono ?_); rintro e w10 ⟨rfl, hb10⟩; have t10 := Hgr.out _ hb10; have Hb10 := Lib.hid hb10; clear hb10))
         | ((with_reducible refine (Hdo.out w10 (HWc.out.below Hb10.out)).mono ?_); rintro e w11 ⟨rfl, g11, c11, hW11, hb11⟩; have q11 := hW11.cells.1; have HW11 := Lib.hid hW11; have Hb11 := Lib.hid hb11; clear hW11 hb11))
       go_ret2
       exact ⟨_, by rw [HE.out, HEq.out]; rfl, by rw [Hof.out]; exact HW11.out.own.rd, (bthen Hbc.out Hb10.out).trans Hb11.out⟩
     · have hof := one_bad (f := f) (o := o) (by rw [HE.out, HEq.out]; exact hE0)
       have Hof := Lib.hid hof
       have hE1 : (E != 0) = true := by rw [bne_iff_ne]; exact hE0
       clear hof
       go_wp2_with (first
         | (go_at_call 95; ((with_reducible refine (Hfi.out).mono ?_); rintro e w10 ⟨rfl, hb10⟩; have t10 := Hgr.out _ hb10; have Hb10 := Lib.hid hb10; clear hb10)))
       go_ret2
       exact ⟨_, by rw [HE.out, HEq.out]; rfl, by rw [Hof.out]; exact Hrdc.out _ Hb10.out, bthen Hbc.out Hb10.out⟩
end Go.Proofs.Ytbbompmpecblgaa.Doings
end
section
/- How operations lie in memory; treillagelaw08.bounded, grown. -/
namespace Go.Proofs.Ytbbompmpecblgaa.Shapes
open Go Go.RowKit Go.Deep Go.Proofs.Ytbbompmpecblgaa.Rd Go.Proofs.Ytbbompmpecblgaa.FS
set_option linter.unusedVariables false
def opE : Elem Opn := fun _ _ cs o => cs = [.int .i64 o.kind, .int .i64 o.id, .int .i64 o.to, .int .i64 o.at_, .string o.name, .string o.text] ∧ o.name.size ≤ maxLen ∧ o.text.size ≤ maxLen ∧ (Lit.int .i64 o.kind).wf = true ∧ (Lit.int .i64 o.id).wf = true ∧ (Lit.int .i64 o.to).wf = true ∧ (Lit.int .i64 o.at_).wf = true
theorem opE_keeps : opE.Keeps := fun _ _ _ _ _ _ h _ _ => h
abbrev RdO := RdL opE 6
section
variable {H : Type} {P : Program} {base : Nat} {spare : Nat → Bool} {held : Bool}
theorem opens_op {enc : TypeId × Value → H} {w : World} {e : TypeId} {f0 f1 f2 f3 f4 f5 : Field} (hs : P.underlying e = some (.struct #[f0, f1, f2, f3, f4, f5])) (hone : oneCellFields P #[f0, f1, f2, f3, f4, f5] = true) (hC : P.cellsOf e = 6)
    (h0 : P.underlying f0.type = some (.int .i64)) (h1 : P.underlying f1.type = some (.int .i64)) (h2 : P.underlying f2.type = some (.int .i64)) (h3 : P.underlying f3.type = some (.int .i64)) (h4 : P.underlying f4.type = some .string) (h5 : P.underlying f5.type = some .string) :
    Opens enc P w base spare held e opE := fun fuel cs x h => by
  obtain ⟨xs, n, _, hx, hlc, hlen, hg⟩ := DataW.trod_struct hs h
  rw [hC] at hlc
  match cs, hlc with
  | [c0, c1, c2, c3, c4, c5], _ =>
    obtain ⟨o0, k0⟩ := hone_of hone 0 f0 rfl
    obtain ⟨o1, k1⟩ := hone_of hone 1 f1 rfl
    obtain ⟨o2, k2⟩ := hone_of hone 2 f2 rfl
    obtain ⟨o3, k3⟩ := hone_of hone 3 f3 rfl
    obtain ⟨o4, k4⟩ := hone_of hone 4 f4 rfl
    obtain ⟨o5, k5⟩ := hone_of hone 5 f5 rfl
    match xs, hlen with
    | [y0, y1, y2, y3, y4, y5], _ =>
      have g0 := hg 0 f0 rfl
      have g1 := hg 1 f1 rfl
      have g2 := hg 2 f2 rfl
      have g3 := hg 3 f3 rfl
      have g4 := hg 4 f4 rfl
      have g5 := hg 5 f5 rfl
      simp [o0, k0] at g0
      simp [o1, k1] at g1
      simp [o2, k2] at g2
      simp [o3, k3] at g3
      simp [o4, k4] at g4
      simp [o5, k5] at g5
      obtain ⟨z0, e0, _, m0⟩ := DataW.trod_int h0 g0
      obtain ⟨z1, e1, _, m1⟩ := DataW.trod_int h1 g1
      obtain ⟨z2, e2, _, m2⟩ := DataW.trod_int h2 g2
      obtain ⟨z3, e3, _, m3⟩ := DataW.trod_int h3 g3
      obtain ⟨z4, e4, _, m4⟩ := DataW.trod_string h4 g4
      obtain ⟨z5, e5, _, m5⟩ := DataW.trod_string h5 g5
      simp at e0 e1 e2 e3 e4 e5
      exact ⟨⟨z0, z1, z2, z3, z4, z5⟩, by rw [e0, e1, e2, e3, e4, e5], m4, m5, m0, m1, m2, m3⟩
theorem opens_op_Op {enc : TypeId × Value → H} {w : World} : Opens enc Try.prog w base spare held 101 opE :=
  opens_op Try.underlying101 (by kernel_rfl) (by kernel_rfl) Try.underlying3 Try.underlying3 Try.underlying3 Try.underlying3 Try.underlying9 Try.underlying9
end
theorem op_at {B : Nat} {w : World} {A : Option Addr} {n c : Nat} {l : List Opn} (h : RdO B w (.slice A n c) l) {i : Nat} (hi : i < l.length) :
    ∃ b o : Nat, A = some ⟨b, o, none⟩ ∧ b < B ∧ w.cell? ⟨b, o + i * 6, none⟩ = some (.int .i64 l[i].kind) ∧ w.cell? ⟨b, o + i * 6 + 1, none⟩ = some (.int .i64 l[i].id) ∧ w.cell? ⟨b, o + i * 6 + 2, none⟩ = some (.int .i64 l[i].to) ∧ w.cell? ⟨b, o + i * 6 + 3, none⟩ = some (.int .i64 l[i].at_) ∧
      w.cell? ⟨b, o + i * 6 + 4, none⟩ = some (.string l[i].name) ∧ w.cell? ⟨b, o + i * 6 + 5, none⟩ = some (.string l[i].text) ∧ l[i].name.size ≤ maxLen ∧ l[i].text.size ≤ maxLen ∧ (Lit.int .i64 l[i].id).wf = true ∧ (Lit.int .i64 l[i].to).wf = true := by
  obtain ⟨b, o, cs, e, hb, hlen, hc, hcs, m1, m2, m3, m4, m5, m6⟩ := h.at_ hi
  subst hcs
  exact ⟨b, o, e, hb, hc 0 _ rfl, hc 1 _ rfl, hc 2 _ rfl, hc 3 _ rfl, hc 4 _ rfl, hc 5 _ rfl, m1, m2, m4, m5⟩
end Go.Proofs.Ytbbompmpecblgaa.Shapes
namespace Go.Proofs.Ytbbompmpecblgaa.Grown
open Go Go.RowKit Go.Proofs.Ytbbompmpecblgaa.Seq Go.Proofs.Ytbbompmpecblgaa.WS Go.Proofs.Ytbbompmpecblgaa.FS Go.Proofs.Ytbbompmpecblgaa.Mem Go.Proofs.Ytbbompmpecblgaa.Rd Go.Proofs.Ytbbompmpecblgaa.Shapes Go.Proofs.Ytbbompmpecblgaa.Word Go.Proofs.Ytbbompmpecblgaa.FFam
set_option linter.unusedVariables false
set_option linter.unusedSimpArgs false
def opB (o : Opn) : Bool := decide (o.name.size ≤ 300) && decide (o.text.size ≤ 300)
def bndO (l : List Opn) : Bool := l.all opB && decide (l.length ≤ 150)
theorem bndO_no {l : List Opn} {k : Nat} (hk : k < l.length) (h : opB l[k] = false) : bndO l = false := by
  unfold bndO
  rw [Bool.and_eq_false_iff]
  left
  rw [List.all_eq_false]
  exact ⟨l[k], List.getElem_mem _, by rw [h]; simp⟩
set_option maxRecDepth 100000 in
set_option maxHeartbeats 4000000 in
theorem bounded_calls (w : World) (v : Value) (l : List Opn) (h : RdO w.heap.size w v l) : Calls Try.prog 37 #[v] w fun e w' => e = .returned (.bool (bndO l)) ∧ w = w' := by
  obtain ⟨A0, c0, rfl, hl0, hc0, h'⟩ := h.form
  simp only [maxLen] at hc0
  have Hh := Lib.hid h'
  have hno := fun k (hk : k < l.length) hx => bndO_no (l := l) hk hx
  have Hno := Lib.hid hno
  clear h h' hno
  go_enter Try.func37, Try.ntmps37
  go_wp2_with fail
  go_loop [3] (fun i => ∃ k : Nat, k ≤ l.length ∧ i = .int .i64 k ∧ Hid ((l.take k).all opB = true)) (fun i => l.length - (intOf i).toNat)
  case atStart => exact ⟨0, Nat.zero_le _, rfl, Lib.hid rfl⟩
  case round =>
    obtain ⟨k, hk, rfl, hall⟩ := hrel
    by_cases hlt : k < l.length
    · obtain ⟨b, o, rfl, hbl, _, _, _, _, g4, g5, m1, m2, _, _⟩ := op_at Hh.out hlt
      have hno := Hno.out k hlt
      have htk : l.take (k + 1) = l.take k ++ [l[k]] := List.take_succ_eq_append_getElem hlt
      have hallk : opB l[k] = true → (l.take (k + 1)).all opB = true := fun hx => by rw [htk, List.all_append, hall.out]; simp [hx]
      have Hallk := Lib.hid hallk; have Hn := Lib.hid hno
      clear hallk hno htk hall m1 m2
      generalize l[k] = x at *
      by_cases h1 : x.name.size ≤ 300
      · by_cases h2 : x.text.size ≤ 300
        · have hx : opB x = true := by unfold opB; rw [decide_eq_true h1, decide_eq_true h2]; rfl
          have Hx := Lib.hid hx
          clear hx
          go_wp2_with fail
          go_round
          case rel => exact ⟨k + 1, by omega, by go_num, Lib.hid (Hallk.out Hx.out)⟩
          case measure => simp [intOf]; omega
        · have hx : opB x = false := by unfold opB; rw [decide_eq_false h2]; simp
          have Hx := Lib.hid hx
          clear hx
          go_wp2_with fail
          go_ret
          exact ⟨by rw [Hn.out Hx.out]; rfl, rfl⟩
      · have hx : opB x = false := by unfold opB; rw [decide_eq_false h1]; rfl
        have Hx := Lib.hid hx
        clear hx
        go_wp2_with fail
        go_ret
        exact ⟨by rw [Hn.out Hx.out]; rfl, rfl⟩
    · have hr : bndO l = decide ((l.length : Int) ≤ 150) := by
        unfold bndO
        have := hall.out
        rw [List.take_of_length_le (by omega)] at this
        rw [this, Bool.true_and]
        rw [Bool.eq_iff_iff]; simp; try omega
      have Hr := Lib.hid hr
      clear hr hall
      go_wp2_with fail
      go_ret
      exact ⟨by rw [Hr.out]; rfl, rfl⟩
noncomputable def growF (l : List Opn) : Fo := l.foldl oneF newFo
theorem grow_may (l : List Opn) : mayB (growF l) = true := by
  unfold growF
  have : ∀ (l : List Opn) (f : Fo), mayB f = true → mayB (l.foldl oneF f) = true := by
    intro l
    induction l with
    | nil => exact fun f h => h
    | cons o l ih => exact fun f h => ih _ (one_may h o)
  exact this l _ new_may
theorem grow_snoc (l : List Opn) (o : Opn) : growF (l ++ [o]) = oneF (growF l) o := by unfold growF; rw [List.foldl_append]; rfl
def GrownPost (l : List Opn) (w : World) (e : Ending) (w' : World) : Prop := ∃ v, e = .returned v ∧ RdF w'.heap.size w' v (growF l) ∧ Below w.heap.size w w'
set_option maxRecDepth 100000 in
set_option maxHeartbeats 4000000 in
theorem grown_calls (w : World) (v : Value) (l : List Opn) (h : RdO w.heap.size w v l) : Calls Try.prog 39 #[v] w (GrownPost l w) := by
  have hnew := FNew.New_calls w
  have hrd := fun w' (hb : Below w.heap.size w w') => h.below opE_keeps (w' := w') hb (Nat.le_refl _)
  obtain ⟨A0, c0, rfl, hl0, hc0, _⟩ := h.form
  simp only [maxLen] at hc0
  have Hnew := Lib.hid hnew; have Hrd := Lib.hid hrd
  clear h hnew hrd
  go_enter Try.func39, Try.ntmps39
  go_wp2_with (go_at_call 36; ((with_reducible refine (Hnew.out).mono ?_); rintro e w1 ⟨v1, rfl, hr1, hb1⟩; have Hr1 := Lib.hid hr1; have Hb1 := Lib.hid hb1; clear hr1 hb1))
  go_loopw [3, 4] (fun v i wr => ∃ k : Nat, k ≤ l.length ∧ i = .int .i64 k ∧ RdF wr.heap.size wr v (growF (l.take k)) ∧ Below w.heap.size w wr) (fun _ i _ => l.length - (intOf i).toNat)
  case atStart => exact ⟨0, Nat.zero_le _, rfl, Hr1.out, Hb1.out⟩
  case round =>
    obtain ⟨k, hk, rfl, hr, hb⟩ := hrel
    have hmg := grow_may (l.take k)
    by_cases hlt : k < l.length
    · obtain ⟨b, o, rfl, hbl, g0, g1, g2, g3, g4, g5, m1, m2, m3, m4⟩ := op_at (Hrd.out _ hb) hlt
      have hone := Doings.one_calls wr _ _ l[k] hr hmg m1 m2 m3 m4
      have hs : growF (l.take (k + 1)) = oneF (growF (l.take k)) l[k] := by rw [List.take_succ_eq_append_getElem hlt, grow_snoc]
      obtain ⟨A3, c3, rfl, _, _, _⟩ := hr.form
      have Hone := Lib.hid hone; have Hs := Lib.hid hs; have Hb := Lib.hid hb
      clear hone hs hb hr hmg m1 m2 m3 m4
      generalize l[k] = x at *
      go_wp2_with (go_at_call 74; ((with_reducible refine (Hone.out).mono ?_); rintro e w5 ⟨v5, rfl, hr5, hb5⟩; have Hr5 := Lib.hid hr5; have Hb5 := Lib.hid hb5; clear hr5 hb5))
      go_roundw
      case rel => exact ⟨k + 1, by omega, by go_num, by rw [Hs.out]; exact Hr5.out, bthen Hb.out Hb5.out⟩
      case measure => simp [intOf]; omega
    · have hl : growF (l.take k) = growF l := by rw [List.take_of_length_le (by omega)]
      rw [hl] at hr hmg
      have hmy := FMay.May_calls wr _ _ hr (fun n hn => by have := Work.may_kids hmg n hn; omega)
      rw [hmg] at hmy
      obtain ⟨A3, c3, rfl, _, _, _⟩ := hr.form
      have Hmy := Lib.hid hmy; have Hr := Lib.hid hr; have Hb := Lib.hid hb
      clear hmy hr hb hmg hl
      go_wp2_with (go_at_call 32; ((with_reducible refine (Hmy.out).mono ?_); rintro e w5 ⟨rfl, hb5⟩; have Hb5 := Lib.hid hb5; clear hb5))
      go_ret
      exact ⟨_, rfl, (Hr.out.below nodeE_keeps Hb5.out (Nat.le_refl _)).mono nodeE_keeps Hb5.out.size, bthen Hb.out Hb5.out⟩
end Go.Proofs.Ytbbompmpecblgaa.Grown
end
section
/- walk: what it answers, plain; and the laws on it. No program. -/
namespace Go.Proofs.Ytbbompmpecblgaa.FS
open Go.Proofs.Ytbbompmpecblgaa.WS
set_option linter.unusedVariables false

def parentE (f : Fo) (i : Int) : Int × Int := if isNode f i = false then (0, 70) else if (at_ f i).parent = -1 then (0, 3) else ((at_ f i).parent, 0)
def kidsE (f : Fo) (i : Int) : List Int × Int := if isNode f i = false then ([], 70) else ((at_ f i).kids, 0)
def idxL (l : List Int) (x : Int) : Int := match l.findIdx? (fun y => y == x) with | some i => i | none => -1
def besideE (f : Fo) (i d : Int) : Int × Int :=
  if isNode f i = false then (0, 70)
  else if (at_ f i).parent = -1 then (0, 3)
  else if d < -(idxL (at_ f (at_ f i).parent).kids i) ∨ ((at_ f (at_ f i).parent).kids.length : Int) - idxL (at_ f (at_ f i).parent).kids i ≤ d then (0, 3)
  else ((at_ f (at_ f i).parent).kids.getD (idxL (at_ f (at_ f i).parent).kids i + d).toNat 0, 0)
def ownT (f : Fo) (k : Int) : List UInt8 := if (at_ f k).kind = 2 then (at_ f k).text.data.toList else []
noncomputable def contentL (f : Fo) (i : Int) : List UInt8 := (order f i).flatMap (ownT f)
def attrV (f : Fo) (i : Int) (s : ByteArray) : Option ByteArray := ((at_ f i).attrs.find? (fun a => decide (a.name = s))).map (·.value)
def attrErr (f : Fo) (i : Int) (s : ByteArray) : Int := if isNode f i = false then 70 else if (at_ f i).kind ≠ 1 then 71 else if (attrV f i s).isSome then 0 else 75
def attrVal (f : Fo) (i : Int) (s : ByteArray) : ByteArray := if attrErr f i s = 0 then (attrV f i s).getD ⟨#[]⟩ else ⟨#[]⟩
/-- The name of the attribute that is an id. -/
def idN : ByteArray := ⟨#[105, 100]⟩
def hitB (f : Fo) (text : ByteArray) (k : Int) : Bool := decide (attrErr f k idN = 0) && decide (attrVal f k idN = text) && decide (text.size ≠ 0)
noncomputable def byId (f : Fo) (text : ByteArray) : Option Int := (order f 0).find? (hitB f text)

/-! Orders. -/
section
variable {f : Fo} (h : IsMay f)
include h
theorem IsMay.fam : familyB f = true := may_family (is_may h)
theorem order_mem {i : Int} (hi : isNode f i = true) (j : Int) : j ∈ order f i ↔ isNode f j = true ∧ belowB f i j = true := by
  rw [mem_order h.fam h.climb hi]
  constructor
  · rintro ⟨h1, m, hm⟩
    exact ⟨h1, (below_iff (is_may h) h1).2 ⟨((node_iff _ _).1 hi).1, m, hm⟩⟩
  · rintro ⟨h1, h2⟩
    exact ⟨h1, ((below_iff (is_may h) h1).1 h2).2⟩
theorem order_count {i : Int} (hi : isNode f i = true) {k : Int} (hk : isNode f k = true) : (order f i).count k = if belowB f i k then 1 else 0 := by
  have hn := order_nodup h.fam h.climb hi
  by_cases hb : belowB f i k = true
  · rw [if_pos hb]
    have h1 := (List.nodup_iff_count.1 hn) k
    have h2 := List.count_pos_iff.2 ((order_mem h hi k).2 ⟨hk, hb⟩)
    omega
  · rw [if_neg hb]
    exact List.count_eq_zero_of_not_mem (fun hm => hb ((order_mem h hi k).1 hm).2)
omit h in
/-- The length of a list of small numbers is the sum of how often each is in it. -/
theorem length_counts : ∀ (n : Nat) (l : List Int), (∀ x ∈ l, 0 ≤ x ∧ x < n) → l.length = ((List.range n).map (fun k : Nat => l.count (k : Int))).sum
  | 0, l, hl => by
    cases l with
    | nil => rfl
    | cons x l => have := hl x (by simp); omega
  | n + 1, l, hl => by
    rw [List.range_succ, List.map_append, List.sum_append]
    have h1 := length_counts n (l.filter (fun x => decide (x ≠ (n : Int)))) (fun x hx => by
      obtain ⟨h2, h3⟩ := List.mem_filter.1 hx
      have := hl x h2
      simp at h3
      omega)
    have h2 : ∀ k ∈ List.range n, (l.filter (fun x => decide (x ≠ (n : Int)))).count (k : Int) = l.count (k : Int) := fun k hk => by
      have := List.mem_range.1 hk
      rw [List.count_filter (by simp; omega)]
    rw [List.map_congr_left h2] at h1
    rw [← h1]
    have h3 := List.length_eq_countP_add_countP (fun x => decide (x ≠ (n : Int))) (l := l)
    rw [List.countP_eq_length_filter] at h3
    have h4 : l.countP (fun a => decide ¬(decide (a ≠ (n : Int))) = true) = l.count (n : Int) := by
      unfold List.count
      apply List.countP_congr
      intro x _
      simp
    simp only [List.map_cons, List.map_nil, List.sum_cons, List.sum_nil, Nat.add_zero]
    omega
omit h in
theorem sum_swap {α β : Type} (c : α → β → Nat) : ∀ (l : List α) (m : List β), (l.map (fun x => (m.map (c x)).sum)).sum = (m.map (fun y => (l.map (fun x => c x y)).sum)).sum
  | [], m => by
    rw [List.map_nil, List.sum_nil]
    symm
    exact sum_zero _ (fun x hx => by
      obtain ⟨y, _, rfl⟩ := List.mem_map.1 hx
      rfl)
  | x :: l, m => by
    rw [List.map_cons, List.sum_cons, sum_swap c l m]
    have : ∀ (m : List β), (m.map (c x)).sum + (m.map (fun y => (l.map (fun x => c x y)).sum)).sum = (m.map (fun y => ((x :: l).map (fun x => c x y)).sum)).sum := by
      intro m
      induction m with
      | nil => rfl
      | cons y m ih =>
        simp only [List.map_cons, List.sum_cons] at ih ⊢
        omega
    exact this m
omit h in
theorem sum_ones : ∀ (n : Nat) (c : Nat → Nat), (∀ k, k < n → c k = 1) → ((List.range n).map c).sum = n
  | 0, _, _ => rfl
  | n + 1, c, h => by
    rw [List.range_succ, List.map_append, List.sum_append, sum_ones n c (fun k hk => h k (by omega))]
    simp [h n (by omega)]
omit h in
theorem sum_countP {α : Type} (p : α → Bool) : ∀ l : List α, (l.map (fun x => if p x then 1 else 0)).sum = l.countP p
  | [] => rfl
  | x :: l => by
    rw [List.map_cons, List.sum_cons, sum_countP p l, List.countP_cons]
    omega
/-- All nodes are in the orders of those that stand alone. -/
theorem tops_orders : ((topsL f).map (fun t => (order f t).length)).sum = f.length := by
  have h1 : ∀ t ∈ topsL f, (order f t).length = ((List.range f.length).map (fun k : Nat => if belowB f t k then 1 else 0)).sum := fun t ht => by
    have hn := (mem_tops.1 ht).1
    rw [length_counts f.length _ (fun x hx => (node_iff _ _).1 ((order_mem h hn x).1 hx).1)]
    congr 1
    exact List.map_congr_left (fun k hk => order_count h hn (nodeI (List.mem_range.1 hk)))
  rw [List.map_congr_left h1, sum_swap]
  exact sum_ones _ _ (fun k hk => by
    rw [sum_countP]
    exact top_one (is_may h) (nodeI hk))
omit h in
theorem countP_split {α : Type} {p q r : α → Bool} : ∀ {l : List α}, (∀ y ∈ l, p y = (q y || r y) ∧ ¬ (q y = true ∧ r y = true)) → l.countP p = l.countP q + l.countP r
  | [], _ => rfl
  | y :: l, h => by
    rw [List.countP_cons, List.countP_cons, List.countP_cons, countP_split (fun z hz => h z (by simp [hz]))]
    obtain ⟨h1, h2⟩ := h y (by simp)
    rw [h1]
    cases hq : q y <;> cases hr : r y <;> simp_all <;> omega
omit h in
theorem count_self (n x : Nat) (hx : x < n) : (List.range n).countP (fun k => decide (k = x)) = 1 := by
  have h1 : (List.range n).countP (fun k => decide (k = x)) = (List.range n).count x := by
    unfold List.count
    exact List.countP_congr (fun y _ => by simp)
  rw [h1]
  have h2 := (List.nodup_iff_count.1 (List.nodup_range (n := n))) x
  have h3 := List.count_pos_iff.2 (List.mem_range.2 hx)
  omega
/-- How many a node is below: as many as it is steps up. -/
theorem above_count : ∀ (n : Nat) {i : Int}, isNode f i = true → Up f n i → (List.range f.length).countP (fun k : Nat => belowB f k i) = n
  | 0, i, hi, hu => by have : i < 0 := hu; have := (node_iff f i).1 hi; omega
  | n + 1, i, hi, hu => by
    obtain ⟨x, rfl, hx⟩ := node_nat hi
    have hpar := h.par x hx
    by_cases hp : (at_ f (x : Int)).parent = -1
    · have hn0 : n = 0 := by
        cases n with
        | zero => rfl
        | succ n => have := hu.2.1; omega
      subst hn0
      rw [← count_self f.length x hx, Nat.zero_add]
      refine List.countP_congr (fun k hk => ?_)
      rw [below_iff (is_may h) hi, decide_eq_true_eq]
      constructor
      · intro hb
        by_cases e : k = x
        · exact e
        · rw [belowP_step (by omega) (by omega), hp] at hb
          exact absurd hb (belowP_end (by omega))
      · rintro rfl
        exact ⟨by omega, 0, rfl⟩
    · have hpn : isNode f (at_ f (x : Int)).parent = true := (node_iff _ _).2 ⟨by omega, hpar.2.1⟩
      have ih := above_count n hpn hu.2
      rw [countP_split (q := fun k => decide (k = x)) (r := fun k : Nat => belowB f k (at_ f (x : Int)).parent), count_self f.length x hx, ih]
      · omega
      · intro k hk
        have hkp := below_parent (is_may h) hi (by omega)
        refine ⟨?_, ?_⟩
        · rw [Bool.eq_iff_iff, below_iff (is_may h) hi, Bool.or_eq_true, decide_eq_true_eq, below_iff (is_may h) hpn]
          by_cases e : k = x
          · subst e
            exact ⟨fun _ => .inl rfl, fun _ => ⟨by omega, 0, rfl⟩⟩
          · rw [belowP_step (by omega) (by omega)]
            exact ⟨fun h => .inr h, fun h => by
              rcases h with h | h
              · exact absurd h e
              · exact h⟩
        · rintro ⟨h1, h2⟩
          obtain rfl := of_decide_eq_true h1
          rw [hkp.1] at h2
          cases h2
theorem depth_le {n : Nat} {i : Int} (hi : isNode f i = true) (hu : Up f n i) : 1 ≤ n ∧ n ≤ f.length := by
  have h1 := above_count h n hi hu
  have h2 := List.countP_le_length (p := fun k : Nat => belowB f k i) (l := List.range f.length)
  rw [List.length_range] at h2
  refine ⟨?_, by omega⟩
  cases n with
  | zero => have : i < 0 := hu; have := (node_iff f i).1 hi; omega
  | succ n => omega

/-! Contents, ids. -/
theorem content_eq {i : Int} (hi : isNode f i = true) : contentL f i = ownT f i ++ (at_ f i).kids.flatMap (contentL f) := by
  unfold contentL
  rw [order_eq h.fam h.climb hi, List.flatMap_cons, List.flatMap_assoc]
theorem content_text {i : Int} (hi : isNode f i = true) (hk : (at_ f i).kind = 2) : (at_ f i).kids = [] := by
  obtain ⟨x, rfl, hx⟩ := node_nat hi
  have := (h.node x hx).1
  unfold plainB at this
  rw [if_neg (by omega), if_neg (by omega), if_pos (.inl hk)] at this
  simp only [Bool.and_eq_true, decide_eq_true_eq] at this
  exact this.2
end
/-! Places. -/
theorem idxL_at {l : List Int} (hn : l.Nodup) {j : Nat} (hj : j < l.length) : idxL l l[j] = j := by
  unfold idxL
  have : l.findIdx? (fun y => y == l[j]) = some j := by
    rw [List.findIdx?_eq_some_iff_getElem]
    refine ⟨hj, by simp, fun k hk => ?_⟩
    intro he
    rw [beq_iff_eq] at he
    have := (List.getElem_inj hn).1 he
    omega
  rw [this]
theorem idxL_mem {l : List Int} {x : Int} (hx : x ∈ l) : ∃ j : Nat, ∃ hj : j < l.length, idxL l x = j ∧ l[j] = x := by
  unfold idxL
  cases hf : l.findIdx? (fun y => y == x) with
  | none =>
    rw [List.findIdx?_eq_none_iff] at hf
    have := hf x hx
    simp at this
  | some j =>
    rw [List.findIdx?_eq_some_iff_getElem] at hf
    obtain ⟨hj, h1, _⟩ := hf
    exact ⟨j, hj, rfl, by simpa using h1⟩
theorem beside_at {f : Fo} (h : IsMay f) {i p : Int} (hp : isNode f p = true) {j : Nat} (hj : j < (at_ f p).kids.length) (hi : (at_ f p).kids[j] = i) (d : Int) :
    besideE f i d = if -(j : Int) ≤ d ∧ d < (at_ f p).kids.length - (j : Int) then ((at_ f p).kids.getD ((j : Int) + d).toNat 0, 0) else (0, 3) := by
  obtain ⟨h1, h2⟩ := fam_kids h.fam hp (List.getElem_mem hj)
  rw [hi] at h1 h2
  have hx := idxL_at (kids_nodup h.fam hp) hj
  rw [hi] at hx
  have h0 := ((node_iff _ _).1 hp).1
  unfold besideE
  rw [if_neg (by rw [h1]; decide), h2, if_neg (by omega), hx]
  by_cases hc : -(j : Int) ≤ d ∧ d < (at_ f p).kids.length - (j : Int)
  · rw [if_pos hc, if_neg (by omega)]
  · rw [if_neg hc, if_pos (by omega)]
end Go.Proofs.Ytbbompmpecblgaa.FS
end
