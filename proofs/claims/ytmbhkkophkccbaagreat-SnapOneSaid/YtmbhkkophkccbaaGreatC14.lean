import Derived.Deep.RegionHeld3
import Derived.Test.YtmbhkkophkccbaaGreatC06
import Derived.Test.YtmbhkkophkccbaaGreatC09
import Derived.Test.YtmbhkkophkccbaaGreatC13
import Derived.Test.YtmbhkkophkccbaaGreatC11
import Derived.Test.YtmbhkkophkccbaaGreatC07
section
namespace Go.Proofs.YtmbhkkophkccbaaGreat.Work
open Go Go.RowKit Go.Proofs.YtmbhkkophkccbaaGreat.Seq WS FS Mem Rd Shapes Word FFam OwnF
set_option linter.unusedVariables false
set_option linter.unusedSimpArgs false

section
variable [Avoid] {base wk g c : Nat} {o : Opn} {f : Fo}
set_option maxHeartbeats 2000000 in
theorem lies_chk (hm : mayB f = true) (hi : isNode f o.id = true) (ht : isNode f o.to = true) : Chk 167 base wk g c o f (liesB f o) := by
 intro w h
 obtain ⟨c0, c1, c2, c3, c4, c5, c6⟩ := h.cells
 have hl := h.big
 obtain ⟨va, vk, k0, k1, k2, k3, k4, k5, ra, rk⟩ := h.node ht
 obtain ⟨Aa, ca, rfl, hca, hcma⟩ := ra.form
 obtain ⟨Ak, ck, rfl, hck, hcm⟩ := rk.form
 obtain ⟨t, hto, htl⟩ := node_nat ht
 have htn : (t : Int) < f.length := by omega
 have hfam := may_family hm
 have hkids : ∀ x ∈ (at_ f o.to).kids, isNode f x = true := fun x hx => (fam_kids hfam ht hx).1
 have hrk : ∀ w', Below w.heap.size w w' → RdL (intE .i64) 1 w'.heap.size w' (.slice Ak (at_ f o.to).kids.length ck) (at_ f o.to).kids := fun w' hw' => (rk.keep (fun b _ hl => hw'.block b hl) hw'.size (fun b x _ => x)).rd
 have hany : ∀ w', Below w.heap.size w w' → ∀ bx, w'.cell? ⟨bx, 0, none⟩ = some (.pointer (some ⟨wk, 0, none⟩)) → Calls Tryz.prog 210 #[.slice Ak (at_ f o.to).kids.length ck, .func (.func 211) #[] #[.pointer (some ⟨bx, 0, none⟩)]] w' fun e w'' => e = .returned (.bool ((at_ f o.to).kids.any (fun k => k != o.id && (at_ f k).kind == 1))) ∧ w' = w'' := fun w' hw' bx hbx =>
  ContainsFunc_calls w' _ _ (hrk w' hw') _ _ (fun j hj => lies1_calls w' (h.below hw') bx hbx _ (hkids _ (List.getElem_mem _)))
 have his : ∀ w', Below w.heap.size w w' → ∀ x : Int, (Lit.int .i64 x).wf = true → Calls Tryz.prog 186 #[.pointer (some ⟨wk, 0, none⟩), .slice (some ⟨w'.heap.size, 0, none⟩) 1 1] (w'.alloc (.cells #[.int .i64 x] 3)) (ChkPost ((at_ f o.id).kind == x) (w'.alloc (.cells #[.int .i64 x] 3))) := fun w' hw' x hx => by
  have hs := is_calls (w'.alloc (.cells #[.int .i64 x] 3)) ((h.below hw').below ((Below.refl _ _).alloc (Nat.le_refl _) _)) hi _ [x] (lit_ints w' [x] (by simp) (by simpa using hx))
  have e : [x].any (fun y => y == (at_ f o.id).kind) = ((at_ f o.id).kind == x) := by
   rw [Bool.eq_iff_iff]; simp; exact ⟨fun h => h.symm, fun h => h.symm⟩
  rw [e] at hs
  exact hs
 have hb : ∀ bb, liesB f o = bb → (o.id = 0 → bb = false) ∧ ((at_ f o.to).kind ≠ 0 → (at_ f o.to).kind ≠ 1 → bb = false) ∧ (o.id ≠ 0 → (at_ f o.to).kind = 0 ∨ (at_ f o.to).kind = 1 → bb = (decide (o.to ≠ 0) || ((at_ f o.id).kind == 3) || ((at_ f o.id).kind == 1 && !(at_ f o.to).kids.any (fun k => k != o.id && (at_ f k).kind == 1)))) := by
  rintro bb rfl
  refine ⟨fun h => ?_, fun h1 h2 => ?_, fun h1 h2 => ?_⟩
  ·unfold liesB; rw [if_pos (.inl h)]
  ·unfold liesB; rw [if_pos (.inr ⟨h1, h2⟩)]
  ·unfold liesB; rw [if_neg (by rintro (h | ⟨h3, h4⟩); exact h1 h; exact h2.elim h3 h4)]
   by_cases e1 : o.to ≠ 0
   ·rw [if_pos (.inl e1), decide_eq_true e1]; rfl
   ·rw [decide_eq_false e1]
    by_cases e2 : (at_ f o.id).kind = 3
    ·rw [if_pos (.inr e2), e2]; rfl
    ·rw [if_neg (by rintro (h | h); exact e1 h; exact e2 h)]
     have : ((at_ f o.id).kind == 3) = false := by rw [beq_eq_false_iff_ne]; exact e2
     rw [this]; rfl
 generalize liesB f o = bb at *
 have hb := hb _ rfl
 obtain ⟨av, hav⟩ : ∃ av, (at_ f o.to).kids.any (fun k => k != o.id && (at_ f k).kind == 1) = av := ⟨_, rfl⟩
 rw [hav] at hb hany
 have hcc : ∀ w', Below w.heap.size w w' → w'.cell? ⟨wk, 0, none⟩ = some (.slice (some ⟨g, 0, none⟩) f.length c) ∧ w'.cell? ⟨wk, 2, none⟩ = some (.int .i64 o.id) ∧ w'.cell? ⟨wk, 3, none⟩ = some (.int .i64 o.to) ∧
  w'.cell? ⟨g, o.to.toNat * 6, none⟩ = some (.int .i64 (at_ f o.to).kind) ∧ w'.cell? ⟨g, o.to.toNat * 6 + 1, none⟩ = some (.string (at_ f o.to).name) ∧ w'.cell? ⟨g, o.to.toNat * 6 + 2, none⟩ = some (.string (at_ f o.to).text) ∧ w'.cell? ⟨g, o.to.toNat * 6 + 3, none⟩ = some (.slice Aa (at_ f o.to).attrs.length ca) ∧
  w'.cell? ⟨g, o.to.toNat * 6 + 4, none⟩ = some (.int .i64 (at_ f o.to).parent) ∧ w'.cell? ⟨g, o.to.toNat * 6 + 5, none⟩ = some (.slice Ak (at_ f o.to).kids.length ck) := fun w' hw' => ⟨cell_grow hw' c0, cell_grow hw' c2, cell_grow hw' c3, cell_grow hw' k0, cell_grow hw' k1, cell_grow hw' k2, cell_grow hw' k3, cell_grow hw' k4, cell_grow hw' k5⟩
 rw [hto] at c3 k0 k1 k2 k3 k4 k5 hca hck hb hany hcc
 simp only [Int.toNat_natCast] at k0 k1 k2 k3 k4 k5 hcc
 have hb2 := hb
 have Hany := Lib.hid hany; have His := Lib.hid his; have Hb := Lib.hid hb2; have Hcc := Lib.hid hcc; have Hto := Lib.hid hto
 generalize (at_ f (t : Int)).kind = kd at *
 generalize (at_ f (t : Int)).name = nm at *
 generalize (at_ f (t : Int)).text = tx at *
 generalize (at_ f (t : Int)).parent = par at *
 generalize (at_ f (t : Int)).kids.length = nk at *
 generalize (at_ f (t : Int)).attrs.length = na at *
 clear hany his hb hb2 hcc h ra rk hkids hrk hfam hi ht hm hto hav
 go_enter Tryz.func167, Tryz.ntmps167
 go_wp2_with fail
 obtain ⟨bx, hbx⟩ : ∃ bx, bx = w.heap.size := ⟨_, rfl⟩
 obtain ⟨w1, hw1⟩ : ∃ w1, w.alloc (.cells #[.pointer (some ⟨wk, 0, none⟩)] 176) = w1 := ⟨_, rfl⟩
 have hb1 : Below w.heap.size w w1 := by rw [← hw1]; exact (Below.refl _ _).alloc (Nat.le_refl _) _
 have q : w1.cell? ⟨bx, 0, none⟩ = some (.pointer (some ⟨wk, 0, none⟩)) := by rw [← hw1, hbx]; exact (cell_of_row _ _ _ _ _ _ (World.alloc_heap_new _ _)).trans rfl
 have hbl : bx < w1.heap.size := by rw [← hw1, hbx]; simp
 rw [hw1, ← hbx]
 obtain ⟨p0, p2, p3, q0, q1, q2, q3, q4, q5⟩ := Hcc.out w1 hb1
 have Hb1 := Lib.hid hb1
 clear hb1 hw1 hbx c0 c1 c2 c3 c4 c5 c6 k0 k1 k2 k3 k4 k5
 go_region_held3 (fun w' => w'.cell? ⟨bx, 0, none⟩ = some (.pointer (some ⟨wk, 0, none⟩)) ∧ w'.cell? ⟨wk, 0, none⟩ = some (.slice (some ⟨g, 0, none⟩) f.length c) ∧ w'.cell? ⟨wk, 3, none⟩ = some (.int .i64 t) ∧ w'.cell? ⟨g, t * 6, none⟩ = some (.int .i64 kd) ∧ w'.cell? ⟨g, t * 6 + 1, none⟩ = some (.string nm) ∧ w'.cell? ⟨g, t * 6 + 2, none⟩ = some (.string tx) ∧ w'.cell? ⟨g, t * 6 + 3, none⟩ = some (.slice Aa na ca) ∧ w'.cell? ⟨g, t * 6 + 4, none⟩ = some (.int .i64 par) ∧ w'.cell? ⟨g, t * 6 + 5, none⟩ = some (.slice Ak nk ck))
  (first | exact ⟨q, p0, p3, q0, q1, q2, q3, q4, q5⟩ | go_keep)
  ((fail))
 rename_i hSS
 clear hSS
 obtain ⟨bt, hbt⟩ : ∃ bt, bt = w1.heap.size := ⟨_, rfl⟩
 obtain ⟨w2, hw2⟩ : ∃ w2, (w1.alloc (.cells #[.int .i64 kd, .string nm, .string tx, .slice Aa na ca, .int .i64 par, .slice Ak nk ck] 50)).drew = w2 := ⟨_, rfl⟩
 have hb12 : Below w1.heap.size w1 w2 := by rw [← hw2]; exact ((Below.refl _ _).alloc (Nat.le_refl _) _).drew
 have hb2 : Below w.heap.size w w2 := bthen Hb1.out hb12
 have e2 : w2.heap[bt]? = some (.cells #[.int .i64 kd, .string nm, .string tx, .slice Aa na ca, .int .i64 par, .slice Ak nk ck] 50 (0, 0)) := by rw [← hw2, hbt]; exact heap_alloc_new w1 _
 have r := cell_grow hb12 q
 have r0 : w2.cell? ⟨bt, 0, none⟩ = some (.int .i64 kd) := (cell_of_row _ _ _ _ _ _ e2).trans rfl
 have r5 : w2.cell? ⟨bt, 5, none⟩ = some (.slice Ak nk ck) := (cell_of_row _ _ _ _ _ _ e2).trans rfl
 have hb2l := lt_heap e2
 have hbl2 : bx < w2.heap.size := Nat.lt_of_lt_of_le hbl hb12.size
 rw [hw2, ← hbt]
 obtain ⟨s0, s2, s3, _, _, _, _, _, _⟩ := Hcc.out w2 hb2
 have Hb2 := Lib.hid hb2
 have Hbt2 := Lib.hid hb12
 clear hb2 hb12 hw2 hbt e2 q p0 p2 p3 q0 q1 q2 q3 q4 q5 Hcc Hb1
 have hbits := Hb.out
 by_cases h0 : o.id = 0
 ·have e1 : (o.id == 0) = true := by rw [h0]; rfl
  have := hbits.1 h0
  subst this
  rw [h0] at s2
  clear hbits Hb h0 e1
  go_wp2_with fail
  go_ret
  exact ⟨rfl, Hb2.out⟩
 ·have e1 : (o.id == 0) = false := by rw [beq_eq_false_iff_ne]; exact h0
  by_cases h1 : kd = 0 ∨ kd = 1
  ·have hbb := hbits.2.2 h0 h1
   obtain ⟨ko, hko⟩ : ∃ ko, (at_ f o.id).kind = ko := ⟨_, rfl⟩
   rw [hko] at hbb His
   have Hbb := Lib.hid hbb
   have hi3 := His.out w2 Hb2.out 3 rfl
   have hi1 := fun w' (hw' : Below w2.heap.size w2 w') => His.out w' (bthen Hb2.out hw') 1 rfl
   have hany := fun w' (hw' : Below w2.heap.size w2 w') => Hany.out w' (bthen Hb2.out hw') bx (cell_grow hw' r)
   have hgrow := fun w' (hw' : Below w2.heap.size w2 w') => (⟨cell_grow hw' r, cell_grow hw' r5⟩ : w'.cell? ⟨bx, 0, none⟩ = some (.pointer (some ⟨wk, 0, none⟩)) ∧ w'.cell? ⟨bt, 5, none⟩ = some (.slice Ak nk ck))
   have Hi3 := Lib.hid hi3; have Hi1 := Lib.hid hi1; have Hany2 := Lib.hid hany; have Hgrow := Lib.hid hgrow
   clear hbits Hb hko hbb hi3 hi1 hany hgrow Hany His
   rcases h1 with rfl | rfl
   all_goals
    by_cases ht : (t : Int) = 0
    ·obtain rfl : t = 0 := by omega
     cases h3 : (ko == 3) with
     | true =>
      have hfin : bb = true := by rw [Hbb.out, h3]; simp
      subst hfin
      rw [h3] at Hi3
      go_wp2_with (go_at_call 186; (with_reducible refine (Hi3.out).mono ?_); rintro e w5 ⟨rfl, hb5⟩; have Hb5 := Lib.hid hb5; clear hb5)
      go_ret
      exact ⟨rfl, bthen Hb2.out (bthen ((Below.refl _ _).alloc (Nat.le_refl _) _) Hb5.out)⟩
     | false =>
      rw [h3] at Hi3
      cases h4 : (ko == 1) with
      | false =>
       have hfin : bb = false := by rw [Hbb.out, h3, h4]; simp
       subst hfin
       rw [h4] at Hi1
       go_wp2_with (first
        | (go_at_call 186; (with_reducible refine (Hi3.out).mono ?_); rintro e w5 ⟨rfl, hb5⟩; have hb6 := bthen ((Below.refl _ _).alloc (Nat.le_refl _) _) hb5; obtain ⟨u0, u5⟩ := Hgrow.out w5 hb6; have Hb6 := Lib.hid hb6; clear hb5 hb6)
        | (go_at_call 186; (with_reducible refine (Hi1.out _ Hb6.out).mono ?_); rintro e w7 ⟨rfl, hb7⟩; have Hb7 := Lib.hid hb7; clear hb7))
       go_ret
       exact ⟨rfl, bthen Hb2.out (bthen Hb6.out (bthen ((Below.refl _ _).alloc (Nat.le_refl _) _) Hb7.out))⟩
      | true =>
       have hfin : bb = !av := by rw [Hbb.out, h3, h4]; simp
       subst hfin
       rw [h4] at Hi1
       go_wp2_with (first
        | (go_at_call 186; (with_reducible refine (Hi3.out).mono ?_); rintro e w5 ⟨rfl, hb5⟩; have hb6 := bthen ((Below.refl _ _).alloc (Nat.le_refl _) _) hb5; obtain ⟨u0, u5⟩ := Hgrow.out w5 hb6; have Hb6 := Lib.hid hb6; clear hb5 hb6)
        | (go_at_call 186; (with_reducible refine (Hi1.out _ Hb6.out).mono ?_); rintro e w7 ⟨rfl, hb7⟩; have hb8 := bthen Hb6.out (bthen ((Below.refl _ _).alloc (Nat.le_refl _) _) hb7); obtain ⟨v0, v5⟩ := Hgrow.out w7 hb8; have Hb8 := Lib.hid hb8; clear hb7 hb8)
        | (go_at_call 210; (with_reducible refine (Hany2.out _ Hb8.out).mono ?_); rintro e w9 ⟨rfl, rfl⟩))
       go_ret
       exact ⟨rfl, bthen Hb2.out Hb8.out⟩
    ·have e5 : ((t : Int) != 0) = true := by rw [bne_iff_ne]; exact ht
     have hfin : bb = true := by rw [Hbb.out, decide_eq_true ht]; simp
     subst hfin
     go_wp2_with fail
     go_ret
     exact ⟨rfl, Hb2.out⟩
  ·have n0 : kd ≠ 0 := fun h => h1 (.inl h)
   have n1 : kd ≠ 1 := fun h => h1 (.inr h)
   have := hbits.2.1 n0 n1
   subst this
   have e3 : (kd != 0) = true := by rw [bne_iff_ne]; exact n0
   have e4 : (kd != 1) = true := by rw [bne_iff_ne]; exact n1
   clear hbits Hb
   go_wp2_with fail
   go_ret
   exact ⟨rfl, Hb2.out⟩
end
end Go.Proofs.YtmbhkkophkccbaaGreat.Work
end
section
namespace Go.Proofs.YtmbhkkophkccbaaGreat.Doings
open Go Go.RowKit Go.Proofs.YtmbhkkophkccbaaGreat.Seq WS FS Mem Rd Shapes OwnF Work
set_option linter.unusedVariables false
set_option linter.unusedSimpArgs false

noncomputable def ckL (f : Fo) (o : Opn) : Nat → List Ck
 | 1 => [⟨74, 159, namedB o⟩, ⟨2, 160, roomB f⟩]
 | 2 => [⟨74, 163, textedB o⟩, ⟨2, 160, roomB f⟩]
 | 3 => [⟨74, 163, textedB o⟩, ⟨2, 160, roomB f⟩]
 | 4 => [⟨70, 158, knownB f o⟩, ⟨70, 166, isNode f o.to⟩, ⟨71, 167, liesB f o⟩, ⟨72, 168, !belowB f o.id o.to⟩, ⟨73, 170, fitsB f o⟩]
 | 5 => [⟨70, 158, knownB f o⟩, ⟨71, 175, o.id != 0⟩, ⟨3, 176, (at_ f o.id).parent != -1⟩]
 | 6 => [⟨70, 158, knownB f o⟩, ⟨71, 177, elemB f o⟩, ⟨74, 159, namedB o⟩, ⟨75, 178, hasA f o || decide ((at_ f o.id).attrs.length < 8)⟩]
 | 7 => [⟨70, 158, knownB f o⟩, ⟨71, 177, elemB f o⟩, ⟨75, 181, hasA f o⟩]
 | _ => [⟨70, 158, knownB f o⟩, ⟨71, 185, (at_ f o.id).kind == 2 || (at_ f o.id).kind == 3⟩, ⟨74, 163, textedB o⟩]
theorem kinds8 {k : Nat} (h1 : 1 ≤ k) (h8 : k ≤ 8) : k = 1 ∨ k = 2 ∨ k = 3 ∨ k = 4 ∨ k = 5 ∨ k = 6 ∨ k = 7 ∨ k = 8 := by omega
theorem ck_row (f : Fo) (o : Opn) {k : Nat} (h1 : 1 ≤ k) (h8 : k ≤ 8) : rowsD k = (ckRow (ckL f o k)).toArray ∧ lenD k = (ckL f o k).length := by
 rcases kinds8 h1 h8 with rfl | rfl | rfl | rfl | rfl | rfl | rfl | rfl <;> exact ⟨rfl, rfl⟩
theorem ck_first (f : Fo) (o : Opn) {k : Nat} (h1 : 1 ≤ k) (h8 : k ≤ 8) (hk : o.kind = k) : firstC (ckL f o k) = firstE (checks f o) := by
 unfold checks
 rcases kinds8 h1 h8 with rfl | rfl | rfl | rfl | rfl | rfl | rfl | rfl
 all_goals
  simp only [hk]
  rfl
def allK : List Nat := [159, 160, 163, 158, 166, 167, 168, 170, 175, 176, 177, 178, 181, 185, 161, 164, 165, 171, 172, 180, 182, 187]
theorem enters_all : ∀ K ∈ allK, ∀ args w, (callFunc K args).run Tryz.prog w = .ok (.enter K args) w := by
 intro K hK
 simp only [allK, List.mem_cons, List.not_mem_nil, or_false] at hK
 rcases hK with rfl | rfl | rfl | rfl | rfl | rfl | rfl | rfl | rfl | rfl | rfl | rfl | rfl | rfl | rfl | rfl | rfl | rfl | rfl | rfl | rfl | rfl
 ·exact enters_of Tryz.func159 (by kernel_rfl) rfl
 ·exact enters_of Tryz.func160 (by kernel_rfl) rfl
 ·exact enters_of Tryz.func163 (by kernel_rfl) rfl
 ·exact enters_of Tryz.func158 (by kernel_rfl) rfl
 ·exact enters_of Tryz.func166 (by kernel_rfl) rfl
 ·exact enters_of Tryz.func167 (by kernel_rfl) rfl
 ·exact enters_of Tryz.func168 (by kernel_rfl) rfl
 ·exact enters_of Tryz.func170 (by kernel_rfl) rfl
 ·exact enters_of Tryz.func175 (by kernel_rfl) rfl
 ·exact enters_of Tryz.func176 (by kernel_rfl) rfl
 ·exact enters_of Tryz.func177 (by kernel_rfl) rfl
 ·exact enters_of Tryz.func178 (by kernel_rfl) rfl
 ·exact enters_of Tryz.func181 (by kernel_rfl) rfl
 ·exact enters_of Tryz.func185 (by kernel_rfl) rfl
 ·exact enters_of Tryz.func161 (by kernel_rfl) rfl
 ·exact enters_of Tryz.func164 (by kernel_rfl) rfl
 ·exact enters_of Tryz.func165 (by kernel_rfl) rfl
 ·exact enters_of Tryz.func171 (by kernel_rfl) rfl
 ·exact enters_of Tryz.func172 (by kernel_rfl) rfl
 ·exact enters_of Tryz.func180 (by kernel_rfl) rfl
 ·exact enters_of Tryz.func182 (by kernel_rfl) rfl
 ·exact enters_of Tryz.func187 (by kernel_rfl) rfl
theorem ck_K (f : Fo) (o : Opn) {k : Nat} (h1 : 1 ≤ k) (h8 : k ≤ 8) : ∀ K ∈ (ckL f o k).map Ck.K, K ∈ allK := by
 rcases kinds8 h1 h8 with rfl | rfl | rfl | rfl | rfl | rfl | rfl | rfl
 all_goals
  simp only [ckL, List.map_cons, List.map_nil]
  decide
theorem ck_enters (f : Fo) (o : Opn) {k : Nat} (h1 : 1 ≤ k) (h8 : k ≤ 8) : ∀ x ∈ ckL f o k, ∀ args w, (callFunc x.K args).run Tryz.prog w = .ok (.enter x.K args) w :=
 fun x hx => enters_all x.K (ck_K f o h1 h8 _ (List.mem_map_of_mem hx))
theorem do_enters {k : Nat} (h1 : 1 ≤ k) (h8 : k ≤ 8) : ∀ args w, (callFunc (doD k) args).run Tryz.prog w = .ok (.enter (doD k) args) w := by
 refine enters_all (doD k) ?_
 rcases kinds8 h1 h8 with rfl | rfl | rfl | rfl | rfl | rfl | rfl | rfl <;> decide
section
variable [Avoid] {base wk g c : Nat} {o : Opn} {f : Fo}
theorem ck_chk (hm : mayB f = true) {k : Nat} (h1 : 1 ≤ k) (h8 : k ≤ 8) : ∀ i (hi : i < (ckL f o k).length), (∀ j (hj : j < (ckL f o k).length), j < i → (ckL f o k)[j].b = true) → Chk (ckL f o k)[i].K base wk g c o f (ckL f o k)[i].b := by
 intro i hi hb
 rcases kinds8 h1 h8 with rfl | rfl | rfl | rfl | rfl | rfl | rfl | rfl
 ·rcases (show i = 0 ∨ i = 1 by have : i < 2 := hi; omega) with rfl | rfl
  ·exact named_chk
  ·exact room_chk
 ·rcases (show i = 0 ∨ i = 1 by have : i < 2 := hi; omega) with rfl | rfl
  ·exact texted_chk
  ·exact room_chk
 ·rcases (show i = 0 ∨ i = 1 by have : i < 2 := hi; omega) with rfl | rfl
  ·exact texted_chk
  ·exact room_chk
 ·rcases (show i = 0 ∨ i = 1 ∨ i = 2 ∨ i = 3 ∨ i = 4 by have : i < 5 := hi; omega) with rfl | rfl | rfl | rfl | rfl
  ·exact known_chk
  ·exact to_chk
  ·exact lies_chk hm (hb 0 (by simp [ckL]) (by decide)) (hb 1 (by simp [ckL]) (by decide))
  ·exact cycle_chk hm
  ·exact fits_chk (hb 0 (by simp [ckL]) (by decide)) (hb 1 (by simp [ckL]) (by decide))
 ·rcases (show i = 0 ∨ i = 1 ∨ i = 2 by have : i < 3 := hi; omega) with rfl | rfl | rfl
  ·exact known_chk
  ·exact zero_chk
  ·exact parent_chk (hb 0 (by simp [ckL]) (by decide))
 ·rcases (show i = 0 ∨ i = 1 ∨ i = 2 ∨ i = 3 by have : i < 4 := hi; omega) with rfl | rfl | rfl | rfl
  ·exact known_chk
  ·exact element_chk (hb 0 (by simp [ckL]) (by decide))
  ·exact named_chk
  ·exact sets_chk (hb 0 (by simp [ckL]) (by decide))
 ·rcases (show i = 0 ∨ i = 1 ∨ i = 2 by have : i < 3 := hi; omega) with rfl | rfl | rfl
  ·exact known_chk
  ·exact element_chk (hb 0 (by simp [ckL]) (by decide))
  ·exact has_chk (hb 0 (by simp [ckL]) (by decide))
 ·rcases (show i = 0 ∨ i = 1 ∨ i = 2 by have : i < 3 := hi; omega) with rfl | rfl | rfl
  ·exact known_chk
  ·exact texts_chk (hb 0 (by simp [ckL]) (by decide))
  ·exact texted_chk
end
section
variable {base wk g c : Nat} {o : Opn} {f : Fo}
theorem attrs_le (hm : mayB f = true) {i : Int} (hi : isNode f i = true) : (at_ f i).attrs.length ≤ 8 := by
 obtain ⟨n, rfl, hn⟩ := node_nat hi
 have h := ((may_is hm).node n hn).1
 unfold plainB at h
 split at h
 ·simp only [Bool.and_eq_true, decide_eq_true_eq] at h
  rw [h.2]; simp
 ·split at h
  ·simp only [Bool.and_eq_true] at h
   exact ((attrsB_iff _).1 h.2).2.2
  ·split at h
   ·simp only [Bool.and_eq_true, decide_eq_true_eq] at h
    rw [h.1.2]; simp
   ·cases h
end
section
variable [Avoid] {base wk g c : Nat} {o : Opn} {f : Fo}
theorem do_all (hm : mayB f = true) {k : Nat} (h1 : 1 ≤ k) (h8 : k ≤ 8) (hk : o.kind = k) (hch : ∀ c ∈ checks f o, c.2 = true) (hn : o.name.size ≤ maxLen) (ht : o.text.size ≤ maxLen) (hw1 : (Lit.int .i64 o.id).wf = true) (hw2 : (Lit.int .i64 o.to).wf = true) (hbw : base ≤ wk) :
  Do (doD k) base wk g c o f (doF f o) := by
 have hl := may_len hm
 unfold checks at hch
 unfold doF
 rcases kinds8 h1 h8 with rfl | rfl | rfl | rfl | rfl | rfl | rfl | rfl
 ·rw [if_pos (by omega)]
  exact fresh1_do (by omega) (by omega) hn ht hbw (by omega)
 ·rw [if_pos (by omega)]
  exact fresh2_do (by omega) (by omega) hn ht hbw (by omega)
 ·rw [if_pos (by omega)]
  exact fresh3_do (by omega) (by omega) hn ht hbw (by omega)
 ·rw [if_neg (by omega), if_pos (by omega)]
  rw [if_neg (by omega), if_neg (by omega), if_pos (by omega)] at hch
  exact insert_do hm (hch (70, knownB f o) (by simp)) (hch (70, isNode f o.to) (by simp)) (hch (73, fitsB f o) (by simp)) hw1 hw2 hbw
 ·rw [if_neg (by omega), if_neg (by omega), if_pos (by omega)]
  rw [if_neg (by omega), if_neg (by omega), if_neg (by omega), if_pos (by omega)] at hch
  exact take_do hm (hch (70, knownB f o) (by simp)) hbw
 ·rw [if_neg (by omega), if_neg (by omega), if_neg (by omega), if_pos (by omega)]
  rw [if_neg (by omega), if_neg (by omega), if_neg (by omega), if_neg (by omega), if_pos (by omega)] at hch
  have hi := hch (70, knownB f o) (by simp)
  exact set_do hm hi (attrs_le hm hi) hn ht hbw
 ·rw [if_neg (by omega), if_neg (by omega), if_neg (by omega), if_neg (by omega), if_pos (by omega)]
  rw [if_neg (by omega), if_neg (by omega), if_neg (by omega), if_neg (by omega), if_neg (by omega), if_pos (by omega)] at hch
  have hi := hch (70, knownB f o) (by simp)
  exact unset_do hi (attrs_le hm hi) (hch (75, hasA f o) (by simp))
 ·rw [if_neg (by omega), if_neg (by omega), if_neg (by omega), if_neg (by omega), if_neg (by omega)]
  rw [if_neg (by omega), if_neg (by omega), if_neg (by omega), if_neg (by omega), if_neg (by omega), if_neg (by omega)] at hch
  exact change_do (hch (70, knownB f o) (by simp)) ht
end
end Go.Proofs.YtmbhkkophkccbaaGreat.Doings
end
section
namespace Go.Proofs.YtmbhkkophkccbaaGreat.Doings
open Go Go.RowKit Go.Proofs.YtmbhkkophkccbaaGreat.Seq WS FS Mem Rd Shapes OwnF Work
set_option linter.unusedVariables false
set_option linter.unusedSimpArgs false

theorem pl_clone_lo {L : Nat} {ops : Array Oper} {rest : List Oper} {o : Oper} {a : Act} {Q : Exit → Act → World → Prop} (W : World) (hgd : o.guard = none) (s x : Operand)
    (ho : o.op = .call { callee := .builtin .append, args := #[s, x], argTypes := #[29, 29] }) (A : Option Addr) (c : Nat) (f : Fo) (hs : a.eval s = .slice (some ⟨W.heap.size, 0, none⟩) 0 0) (hx : a.eval x = .slice A f.length c)
    (hf : LoF L W (.slice A f.length c) f) (h0 : 0 < f.length) (h1 : f.length ≤ 1000)
    (h : ∀ g cap w1, OwnX (fun b => L ≤ b) 50 W.heap.size w1 (.slice (some ⟨g, 0, none⟩) f.length cap) f → Below W.heap.size W w1 → W.heap.size ≤ g → g < w1.heap.size → wpList Tryz.prog ops Q rest (a.put o.dst (.slice (some ⟨g, 0, none⟩) f.length cap)) w1) :
    wpList Tryz.prog ops Q (o :: rest) a (W.alloc (.cells #[] 50)) := by
  obtain ⟨i0, hi, hz0, hz1, hz2⟩ := info_parts LKinds.info_node
  obtain ⟨b, off, xs, rfl, hb, hl, hc, hn⟩ := lo_cells hf h0
  have hown : (W.alloc (.cells #[] 50)).ownsRow W.heap.size 50 6 (.slice (some ⟨W.heap.size, 0, none⟩) 0 0) 0 [] := World.ownsRow_made W #[] 0 (Nat.le_refl _) (by simp [maxLen]) (by simp)
  have hone : ∀ u ∈ xs, u.oneCell' = true := by
    intro u hu
    obtain ⟨j, hj, rfl⟩ := List.mem_iff_getElem.1 hu
    have h6 := hn (j / 6) (by omega)
    refine h6.one _ ?_
    rw [List.mem_iff_getElem?]
    refine ⟨j % 6, ?_⟩
    rw [List.getElem?_take, if_pos (Nat.mod_lt _ (by decide)), List.getElem?_drop, show j / 6 * 6 + j % 6 = j by omega, List.getElem?_eq_getElem hj]
  refine wpList_append_own_at (W.alloc (.cells #[] 50)) hgd s x 29 ho W.heap.size 50 i0 _ 6 96 Tryz.underlying29 hi hz0 hz1 hz2 rfl (by decide) _ 0 [] hs hown ⟨b, off, none⟩ f.length c xs hx (by omega) (fun j u hj => ?_) hone (by simp only [maxLen]; omega) (by omega) (by simp) ?_
  · rw [Addr.add_lit]
    exact cell_alloc (hc j u hj) _
  · intro v' w' ho' hg' hnil hat
    have hO := OwnX.more (X := fun b => L ≤ b) (f := []) (g := f) (v' := v') hown (fun i hi => absurd hi (by simp)) hl (fun i hi => (hn i hi).keep (w' := W.alloc (.cells #[] 50)) (fun b hb hlt => Below.heap_alloc _ _ _ hlt) (by simp) (fun b hb hlt => ⟨fun e => by injection e with e; have : W.heap.size = b := e; omega, hb⟩)) (by simpa using ho') hg' (by
      rcases hat with e | e
      · exact .inl e
      · exact .inr e)
    rw [List.nil_append] at hO
    obtain ⟨g, cap, rfl, hge, hlt, _⟩ := hO.own.form h0
    refine h g cap w' hO ?_ hge hlt
    exact ((Off.alloc (fun b => W.heap.size ≤ b) W _).trans (Off.grown hg' (fun r hr => by injection hr with hr; have : W.heap.size = r := hr; omega))).toBelow (Nat.le_refl _) (fun b hb => hb)
def CloneFPost (L : Nat) (f : Fo) (w : World) (e : Ending) (w' : World) : Prop := ∃ g c, e = .returned (.slice (some ⟨g, 0, none⟩) f.length c) ∧ OwnX (fun b => L ≤ b) 50 w.heap.size w' (.slice (some ⟨g, 0, none⟩) f.length c) f ∧ Below w.heap.size w w' ∧ f.length ≤ c ∧ c ≤ maxLen
set_option maxRecDepth 100000 in
set_option maxHeartbeats 2000000 in
theorem cloneF_calls (L : Nat) (w : World) (v : Value) (f : Fo) (h : LoF L w v f) (h0 : 0 < f.length) (hl : f.length ≤ 1000) : Calls Tryz.prog 108 #[v] w (CloneFPost L f w) := by
  obtain ⟨A, c, rfl, hc, hm, hr⟩ := h.rd.form
  obtain ⟨b, off, cs, rfl, _⟩ := hr.at_ h0
  have q22 : ∀ (w : World) (a : Option Addr) (n c n' c' : Nat), (binOp .eql 29 (.slice a n c) (.slice none n' c')).run Tryz.prog w = .ok (.bool a.isNone) w := fun w a n c n' c' => Lib.run_eql_slice_nil w _ _ a n c n' c' Tryz.underlying29
  have Hr := Lib.hid h
  clear h hr
  go_enter Tryz.func108, Tryz.ntmps108
  go_wp2_with (at_builtin; go_loud (refine pl_clone_lo (L := L) w rfl _ _ rfl _ _ f rfl rfl Hr.out h0 hl ?_; intro g7 cap7 w7 hown7 hb7 hg7 hlt7; have Hown7 := Lib.hid hown7; have Hb7 := Lib.hid hb7; clear hown7 hb7))
  go_ret
  obtain ⟨_, _, e, _, _, _, h1, h2⟩ := Hown7.out.own.form h0
  injection e with _ _ e
  subst e
  exact ⟨_, _, rfl, Hown7.out, Hb7.out, h1, h2⟩
def LoPost (L : Nat) (f : Fo) (o : Opn) (w : World) (e : Ending) (w' : World) : Prop := ∃ v', e = .returned (.tuple #[v', .int .i64 (oneE f o)]) ∧ LoF L w' v' (oneF f o) ∧ Below w.heap.size w w'
def OnePost (f : Fo) (o : Opn) (w : World) (e : Ending) (w' : World) : Prop := ∃ v', e = .returned (.tuple #[v', .int .i64 (oneE f o)]) ∧ RdF w'.heap.size w' v' (oneF f o) ∧ Below w.heap.size w w'
def DPost (N k : Nat) (w0 : World) (e : Ending) (w' : World) : Prop := e = .returned (.map (some (N + 1))) ∧ Below w0.heap.size w0 w' ∧ w'.heap[N + 1]? = some (.map ((esD N 8).map mkV).toArray 8) ∧ w'.heap[N + 1 + k]? = some (.cells (rowsD k) 240 (0, 0))
theorem one_bad {f : Fo} {o : Opn} (h : oneE f o ≠ 0) : oneF f o = f := by unfold oneF; rw [if_neg h]
set_option maxRecDepth 100000 in
set_option maxHeartbeats 8000000 in
theorem one_lo [Avoid] (w : World) (v : Value) (f : Fo) (o : Opn) (h : LoF Avoid.lo w v f) (hlo : Avoid.lo ≤ w.heap.size) (hm : mayB f = true) (hn : o.name.size ≤ maxLen) (ht : o.text.size ≤ maxLen) (hw1 : (Lit.int .i64 o.id).wf = true) (hw2 : (Lit.int .i64 o.to).wf = true) :
    Calls Tryz.prog 45 #[v, .agg #[.int .i64 o.kind, .int .i64 o.id, .int .i64 o.to, .int .i64 o.at_, .string o.name, .string o.text]] w (LoPost Avoid.lo f o w) := by
  have hlen := may_len hm
  obtain ⟨w0, hw0⟩ : ∃ w0, w.alloc (.cells #[.int .i64 o.kind, .int .i64 o.id, .int .i64 o.to, .int .i64 o.at_, .string o.name, .string o.text] 104) = w0 := ⟨_, rfl⟩
  have hrow : w0.heap[w.heap.size]? = some (.cells (OpMay.opRow o) 104 (0, 0)) := by rw [← hw0]; exact World.alloc_heap_new w _
  have hb0 : Below w.heap.size w w0 := by rw [← hw0]; exact (Below.refl _ _).alloc (Nat.le_refl _) _
  have hs0 : w0.heap.size = w.heap.size + 1 := by rw [← hw0]; simp
  have hcell := fun w' (hb : Below w0.heap.size w0 w') => OpMay.op_cells ((hb.block w.heap.size (by omega)).trans hrow)
  have hop := OpMay.opMay_calls o w0
  have hrd := fun w' (hb : Below w.heap.size w w') => h.below hb
  obtain ⟨A0, n0, rfl, hl0, hc0, _⟩ := h.rd.form
  obtain ⟨c0, c1, c2, c3, c4, c5, cf⟩ := OpMay.op_cells hrow
  have Hw0 := Lib.hid hw0; have Hb0 := Lib.hid hb0; have Hcell := Lib.hid hcell; have Hrd := Lib.hid hrd; have Hs0 := Lib.hid hs0
  unfold OpMay.OpMayPost at hop
  cases hmo : mayO o with
  | false =>
    rw [hmo] at hop
    have he : oneE f o = 1 := by unfold oneE; rw [hmo]; rfl
    have hf := one_bad (f := f) (o := o) (by rw [he]; decide)
    have He := Lib.hid he; have Hf := Lib.hid hf; have Hop := Lib.hid hop
    clear hw0 hb0 hcell hrd hop hrow h he hf hmo hs0
    go_enter Tryz.func45, Tryz.ntmps45
    go_upto_region 1 with (fail)
    rw [Hw0.out]
    go_wp2_with (go_at_call 107; ((with_reducible refine (Hop.out).mono ?_); rintro e w5 ⟨rfl, hb5⟩; have Hb5 := Lib.hid hb5; clear hb5))
    go_ret2
    exact ⟨_, by rw [He.out]; rfl, by rw [Hf.out]; exact Hrd.out _ (bthen Hb0.out Hb5.out), bthen Hb0.out Hb5.out⟩
  | true =>
    rw [hmo] at hop
    have hk := (mayO_kind hmo).1
    obtain ⟨k, hko⟩ : ∃ k : Nat, o.kind = k := ⟨o.kind.toNat, by omega⟩
    have h1k : 1 ≤ k := by omega
    have h8 : k ≤ 8 := by omega
    have hclo := fun w' (hb : Below w.heap.size w w') => cloneF_calls Avoid.lo w' _ f (Hrd.out w' hb) (by omega) (by omega)
    have Hop := Lib.hid hop; have Hclo := Lib.hid hclo; have Hko := Lib.hid hko; have Hmo := Lib.hid hmo; have Hm := Lib.hid hm
    clear hw0 hb0 hcell hrd hop hrow h hclo hko hmo hm hs0 hk
    go_enter Tryz.func45, Tryz.ntmps45
    go_upto_region 1 with (fail)
    rw [Hw0.out]
    go_upto_region 3 with (go_at_call 107; ((with_reducible refine (Hop.out).mono ?_); rintro e w5 ⟨rfl, hb5⟩; have Hb5 := Lib.hid hb5; clear hb5))
    obtain ⟨d0, d1, d2, d3, d4, d5, df⟩ := Hcell.out _ Hb5.out
    have hb5 := bthen Hb0.out Hb5.out
    have hclo5 : ∀ W, (W = w5 ∨ W = w5.drew) → Calls Tryz.prog 108 #[.slice A0 f.length n0] W (fun e w' => ∃ g c, e = .returned (.slice (some ⟨g, 0, none⟩) f.length c) ∧ OwnX (fun b => Avoid.lo ≤ b) 50 w5.heap.size w' (.slice (some ⟨g, 0, none⟩) f.length c) f ∧ Below w5.heap.size w5 w' ∧ f.length ≤ c ∧ c ≤ maxLen) := by
      rintro W (rfl | rfl)
      · exact Hclo.out _ hb5
      · exact (Hclo.out _ (hb5.trans (Below.refl _ _).drew)).mono (fun e w' ⟨g, c, h1, h2, h3, h4⟩ => ⟨g, c, h1, h2, (Below.refl _ w5).drew.trans h3, h4⟩)
    have hcell5 := fun w' (hb : Below w5.heap.size w5 w') => Hcell.out w' (bthen Hb5.out hb)
    have Hclo5 := Lib.hid hclo5; have Hcell5 := Lib.hid hcell5; have HB5 := Lib.hid hb5
    clear hclo5 hcell5 hb5 c0 c1 c2 c3 c4 c5 cf Hclo Hcell
    go_region_held3 (fun w' => w'.cell? ⟨w.heap.size, 0, none⟩ = some (.int .i64 o.kind) ∧ w'.cell? ⟨w.heap.size, 1, none⟩ = some (.int .i64 o.id) ∧ w'.cell? ⟨w.heap.size, 2, none⟩ = some (.int .i64 o.to) ∧ w'.cell? ⟨w.heap.size, 3, none⟩ = some (.int .i64 o.at_) ∧ w'.cell? ⟨w.heap.size, 4, none⟩ = some (.string o.name) ∧ w'.cell? ⟨w.heap.size, 5, none⟩ = some (.string o.text))
      (first | exact ⟨d0, d1, d2, d3, d4, d5⟩ | exact ⟨e0, e1, e2, e3, e4, e5⟩ | go_keep)
      (first | (go_at_call 108; ((first | (with_reducible refine (Hclo5.out _ (.inl rfl)).mono ?_) | (with_reducible refine (Hclo5.out _ (.inr rfl)).mono ?_)); rintro e w6 ⟨g6, n6, rfl, ho6, hb6, hc6, hc6m⟩; obtain ⟨e0, e1, e2, e3, e4, e5, ef⟩ := Hcell5.out _ hb6; have Ho6 := Lib.hid ho6; have Hb6 := Lib.hid hb6; clear ho6 hb6)))
    obtain ⟨g', n', e', hgb6, hgl6, _⟩ := Ho6.out.own.form (by omega)
    injection e' with e' _ e2
    injection e' with e'
    injection e' with e'
    subst e' e2
    obtain ⟨w7, hw7⟩ : ∃ w7, w6.alloc (.cells #[.slice (some ⟨g6, 0, none⟩) f.length n6, .int .i64 o.kind, .int .i64 o.id, .int .i64 o.to, .int .i64 o.at_, .string o.name, .string o.text] 179) = w7 := ⟨_, rfl⟩
    have hs5 := HB5.out.size
    have hs6 := Hb6.out.size
    have hb7 : Below w6.heap.size w6 w7 := by rw [← hw7]; exact (Below.refl _ _).alloc (Nat.le_refl _) _
    have hown : OwnX (fun b => Avoid.lo ≤ b) 50 w.heap.size w6 (.slice (some ⟨g6, 0, none⟩) f.length n6) f := by
      obtain ⟨xs, h1, h2⟩ := Ho6.out
      exact ⟨xs, own_base h1 hs5, h2⟩
    have hW7 : Wk w.heap.size w6.heap.size g6 n6 o f w7 := by
      refine ⟨by rw [← hw7]; exact World.alloc_heap_new w6 _, (OwnX.both (Y := fun b => b ≠ w6.heap.size) hown (fun b hb => by show b ≠ w6.heap.size; omega)).below hb7, by omega, by simp only [maxLen] at hc6m; omega, hlo⟩
    have hbw7 : Below w.heap.size w w7 := bthen (bthen HB5.out Hb6.out) hb7
    have hcell7 := fun w' (hb : Below w7.heap.size w7 w') => (Hcell5.out w' (bthen (bthen Hb6.out hb7) hb)).1
    have hdo7 : ∀ W, (W = w7 ∨ W = w7.drew) → Calls Tryz.prog 109 #[] W (DPost w7.heap.size k w7) := by
      rintro W (rfl | rfl)
      · exact (doings_calls _).mono (fun e w' ⟨he, hd⟩ => ⟨he, hd.below, hd.map, hd.rows k h1k h8⟩)
      · exact (doings_calls w7.drew).mono (fun e w' ⟨he, hd⟩ => ⟨he, (Below.refl _ w7).drew.trans hd.below, hd.map, hd.rows k h1k h8⟩)
    have hlk : ∀ N W, W.heap[N + 1]? = some (.map ((esD N 8).map mkV).toArray 8) → (Instr.lookup 184 (.map (some (N + 1))) (.int .i64 o.kind) false).run Tryz.prog W = .ok (.agg #[.slice (some ⟨N + 1 + k, 0, none⟩) (lenD k) (lenD k), fnV (doD k)]) W := fun N W hW => by
      rw [Hko.out]
      exact run_lookup Tryz.underlying184 Tryz.underlying3 hW (k : Int) (valD N k) (esD_find _ 8 k h1k h8)
    have hdoB : Calls Tryz.prog 109 #[] (w7.alloc (.cells #[.slice none 0 0, Value.nilFunc] 183)).drew (fun e w' => DPost (w7.heap.size + 1) k w7 e w' ∧ w'.heap[w7.heap.size]? = some (.cells #[.slice none 0 0, Value.nilFunc] 183 (0, 0))) := by
      refine (doings_calls _).mono (fun e w' ⟨he, hd⟩ => ?_)
      have e1 : (w7.alloc (.cells #[.slice none 0 0, Value.nilFunc] 183)).drew.heap.size = w7.heap.size + 1 := World.size_alloc _ _
      have h1 : Below w7.heap.size w7 (w7.alloc (.cells #[.slice none 0 0, Value.nilFunc] 183)).drew := ((Below.refl _ _).alloc (Nat.le_refl _) _).drew
      rw [e1] at he hd
      exact ⟨⟨he, h1.trans (hd.below.mono (Nat.le_succ _)), hd.map, hd.rows k h1k h8⟩, (hd.below.block _ (by omega)).trans (World.alloc_heap_new w7 _)⟩
    have e7 := hcell7 w7 (Below.refl _ _)
    have hwl : ¬ (w.heap.size = w7.heap.size) := by have h1 := hb7.size; have h2 := Hb5.out.size; have h3 := Hs0.out; have h4 := Hb6.out.size; omega
    have hsf := store_func
    have HW7 := Lib.hid hW7; have Hbw7 := Lib.hid hbw7; have Hcell7 := Lib.hid hcell7; have Hdo7 := Lib.hid hdo7; have HdoB := Lib.hid hdoB; have Hlk := Lib.hid hlk
    rw [hw7]
    go_upto_region 4 with (fail)
    clear hW7 hbw7 hcell7 hdo7 hdoB hlk hw7 hb7 hown Ho6 Hb6 HB5 Hcell5 Hclo5 d0 d1 d2 d3 d4 d5 df e0 e1 e2 e3 e4 e5 ef
    go_cut [7] from 9 (fun s7 wx => ∃ D b : Nat, s7 = .pointer (some ⟨D, 0, none⟩) ∧ wx.heap[D]? = some (.cells #[.slice (some ⟨b, 0, none⟩) (lenD k) (lenD k), fnV (doD k)] 183 (0, 0)) ∧ wx.heap[b]? = some (.cells (rowsD k) 240 (0, 0)) ∧ Below w7.heap.size w7 wx)
    case first =>
     go_region_held3 (fun w' => w'.cell? ⟨w.heap.size, 0, none⟩ = some (.int .i64 o.kind))
       (first | exact e7 | exact e8 | exact (World.cell?_of_block ((Below.heap_setCell _ _ _ _ (fun e => hwl (by exact e))).trans (Below.heap_setCell _ _ _ _ (fun e => hwl (by exact e))))).trans e8 | go_keep)
       (first
         | (go_at_call 109; ((first | (with_reducible refine (Hdo7.out _ (.inl rfl)).mono ?_) | (with_reducible refine (Hdo7.out _ (.inr rfl)).mono ?_)); rintro e w8 ⟨rfl, hd8⟩; have e8 := Hcell7.out _ hd8.1; have l8 := Hlk.out _ w8 hd8.2.1; have l8d := Hlk.out _ w8.drew hd8.2.1; have l8a := Hlk.out _ (w8.alloc (.cells #[.slice none 0 0, Value.nilFunc] 183)) (heap_old hd8.2.1); have l8b := Hlk.out _ (w8.alloc (.cells #[.slice none 0 0, Value.nilFunc] 183)).drew (heap_old hd8.2.1); have Hd8 := Lib.hid hd8; clear hd8))
         | (go_at_call 109; ((with_reducible refine (HdoB.out).mono ?_); rintro e w8 ⟨⟨rfl, hd8⟩, hz8⟩; have e8 := Hcell7.out _ hd8.1; have l8 := Hlk.out _ w8 hd8.2.1; have l8d := Hlk.out _ w8.drew hd8.2.1; have l8a := Hlk.out _ (w8.alloc (.cells #[.slice none 0 0, Value.nilFunc] 183)) (heap_old hd8.2.1); have l8b := Hlk.out _ (w8.alloc (.cells #[.slice none 0 0, Value.nilFunc] 183)).drew (heap_old hd8.2.1); have z8 : w8.cell? ⟨w7.heap.size, 0, none⟩ = some (.slice none 0 0) := (cell_of_row _ _ _ _ _ _ hz8).trans rfl; have z9 : w8.cell? ⟨w7.heap.size, 1, none⟩ = some Value.nilFunc := (cell_of_row _ _ _ _ _ _ hz8).trans rfl; have zf := free_of hz8; have Hd8 := Lib.hid hd8; have Hz8 := Lib.hid hz8; clear hd8 hz8)))
     all_goals
       go_wp2_with fail
       go_meet
       first
         | exact ⟨w8.heap.size, w7.heap.size + 1 + k, rfl, World.alloc_heap_new w8 _, heap_old Hd8.out.2.2, Hd8.out.1.alloc Hd8.out.1.size _⟩
         | exact ⟨w7.heap.size, w7.heap.size + 1 + 1 + k, rfl, (Repl.setCell_row (Repl.setCell_row Hz8.out)).trans rfl, (Below.heap_setCell _ _ _ _ (fun e => by have e2 : w7.heap.size + 1 + 1 + k = w7.heap.size := e; omega)).trans ((Below.heap_setCell _ _ _ _ (fun e => by have e2 : w7.heap.size + 1 + 1 + k = w7.heap.size := e; omega)).trans Hd8.out.2.2), (Hd8.out.1.setCell (Nat.le_refl _) _).setCell (Nat.le_refl _) _⟩
    case rest =>
     obtain ⟨D, b, rfl, hD, hR, hB⟩ := hcut
     have t0 : wc.cell? ⟨D, 0, none⟩ = some (.slice (some ⟨b, 0, none⟩) (lenD k) (lenD k)) := (cell_of_row _ _ _ _ _ _ hD).trans rfl
     have t1 : wc.cell? ⟨D, 1, none⟩ = some (fnV (doD k)) := (cell_of_row _ _ _ _ _ _ hD).trans rfl
     have hWc := HW7.out.below hB
     obtain ⟨r1, r2⟩ := ck_row f o h1k h8
     rw [r1] at hR
     have hl5 : (ckL f o k).length ≤ 100 := by rw [← r2]; rcases kinds8 h1k h8 with rfl | rfl | rfl | rfl | rfl | rfl | rfl | rfl <;> decide
     have hfi := first_calls (ckL f o k) b wc hWc hR hl5 (ck_enters f o h1k h8) (ck_chk Hm.out h1k h8)
     rw [ck_first f o h1k h8 Hko.out, ← r2] at hfi
     have hE : oneE f o = firstE (checks f o) := by unfold oneE; rw [Hmo.out]; rfl
     have hbc : Below w.heap.size w wc := bthen Hbw7.out hB
     have hgr := fun w' (hb : Below wc.heap.size wc w') => cell_grow hb t1
     have hrdc := fun w' (hb : Below wc.heap.size wc w') => Hrd.out w' (bthen hbc hb)
     have heg := do_enters h1k h8
     have Hbc := Lib.hid hbc; have HE := Lib.hid hE; have Hgr := Lib.hid hgr; have Hrdc := Lib.hid hrdc; have HWc := Lib.hid hWc
     obtain ⟨E, hEq⟩ : ∃ E, firstE (checks f o) = E := ⟨_, rfl⟩
     have HEq := Lib.hid hEq
     rw [hEq] at hfi
     have Hfi := Lib.hid hfi
     clear hD hR hB hWc r1 r2 hl5 hfi hE hbc hgr hrdc hEq e7 hsf
     by_cases hE0 : E = 0
     · have hdo := do_all (base := w.heap.size) (wk := w6.heap.size) (g := g6) (c := n6) Hm.out h1k h8 Hko.out (first_zero _ (checks_ne f o) (HEq.out.trans hE0)) hn ht hw1 hw2 (by have := Hb5.out.size; have := Hs0.out; omega)
       have hof : oneF f o = doF f o := by unfold oneF; rw [if_pos (HE.out.trans (HEq.out.trans hE0))]
       have hdo2 : ∀ w', Wk w.heap.size w6.heap.size g6 n6 o f w' → Calls Tryz.prog (doD k) #[.pointer (some ⟨w6.heap.size, 0, none⟩)] w' (DoPost w.heap.size w6.heap.size o (doF f o) w') := fun w' h' => hdo w' h'
       have Hdo := Lib.hid hdo2; have Hof := Lib.hid hof
       subst hE0
       clear hdo hof hdo2
       go_wp2_with (first
         | (go_at_call 110; ((with_reducible refine (Hfi.out).mono ?_); rintro e w10 ⟨rfl, hb10⟩; have t10 := Hgr.out _ hb10; have Hb10 := Lib.hid hb10; clear hb10))
         | ((with_reducible refine (Hdo.out w10 (HWc.out.below Hb10.out)).mono ?_); rintro e w11 ⟨rfl, g11, c11, hW11, hb11⟩; have q11 := hW11.cells.1; have HW11 := Lib.hid hW11; have Hb11 := Lib.hid hb11; clear hW11 hb11))
       go_ret2
       exact ⟨_, by rw [HE.out, HEq.out]; rfl, by rw [Hof.out]; exact LoF.of_ownx HW11.out.ownx (fun b hb => hb.2) hlo, (bthen Hbc.out Hb10.out).trans Hb11.out⟩
     · have hof := one_bad (f := f) (o := o) (by rw [HE.out, HEq.out]; exact hE0)
       have Hof := Lib.hid hof
       have hE1 : (E != 0) = true := by rw [bne_iff_ne]; exact hE0
       clear hof
       go_wp2_with (first
         | (go_at_call 110; ((with_reducible refine (Hfi.out).mono ?_); rintro e w10 ⟨rfl, hb10⟩; have t10 := Hgr.out _ hb10; have Hb10 := Lib.hid hb10; clear hb10)))
       go_ret2
       exact ⟨_, by rw [HE.out, HEq.out]; rfl, by rw [Hof.out]; exact Hrdc.out _ Hb10.out, bthen Hbc.out Hb10.out⟩
theorem one_calls (w : World) (v : Value) (f : Fo) (o : Opn) (h : RdF w.heap.size w v f) (hm : mayB f = true) (hn : o.name.size ≤ maxLen) (ht : o.text.size ≤ maxLen) (hw1 : (Lit.int .i64 o.id).wf = true) (hw2 : (Lit.int .i64 o.to).wf = true) :
    Calls Tryz.prog 45 #[v, .agg #[.int .i64 o.kind, .int .i64 o.id, .int .i64 o.to, .int .i64 o.at_, .string o.name, .string o.text]] w (OnePost f o w) :=
  (@one_lo ⟨0⟩ w v f o (LoF.of_rd h) (Nat.zero_le _) hm hn ht hw1 hw2).mono (fun e w' ⟨v', h1, h2, h3⟩ => ⟨v', h1, h2.rd, h3⟩)
end Go.Proofs.YtmbhkkophkccbaaGreat.Doings
end
section
namespace Go.Proofs.YtmbhkkophkccbaaGreat.Shapes
open Go Go.RowKit Go.Deep Rd FS
set_option linter.unusedVariables false
def opE : Elem Opn := fun _ _ cs o => cs = [.int .i64 o.kind, .int .i64 o.id, .int .i64 o.to, .int .i64 o.at_, .string o.name, .string o.text] ∧ o.name.size ≤ maxLen ∧ o.text.size ≤ maxLen ∧ (Lit.int .i64 o.kind).wf = true ∧ (Lit.int .i64 o.id).wf = true ∧ (Lit.int .i64 o.to).wf = true ∧ (Lit.int .i64 o.at_).wf = true
theorem opE_keeps : opE.Keeps := fun _ _ _ _ _ _ h _ _ => h
abbrev RdO := RdL opE 6
section
variable {H : Type} {P : Program} {base : Nat} {spare : Nat → Bool} {held : Bool}
theorem opens_op {enc : TypeId × Value → H} {w : World} {e : TypeId} {f0 f1 f2 f3 f4 f5 : Field} (hs : P.underlying e = some (.struct #[f0, f1, f2, f3, f4, f5])) (hone : oneCellFields P #[f0, f1, f2, f3, f4, f5] = true) (hC : P.cellsOf e = 6)
  (h0 : P.underlying f0.type = some (.int .i64)) (h1 : P.underlying f1.type = some (.int .i64)) (h2 : P.underlying f2.type = some (.int .i64)) (h3 : P.underlying f3.type = some (.int .i64)) (h4 : P.underlying f4.type = some .string) (h5 : P.underlying f5.type = some .string) :
  Opens enc P w base spare held e opE := fun fuel cs x h => by
 obtain ⟨xs, n, _, hx, hlc, hlen, hg⟩ := DataW.trod_struct hs h
 rw [hC] at hlc
 match cs, hlc with
 | [c0, c1, c2, c3, c4, c5], _ =>
  obtain ⟨o0, k0⟩ := hone_of hone 0 f0 rfl
  obtain ⟨o1, k1⟩ := hone_of hone 1 f1 rfl
  obtain ⟨o2, k2⟩ := hone_of hone 2 f2 rfl
  obtain ⟨o3, k3⟩ := hone_of hone 3 f3 rfl
  obtain ⟨o4, k4⟩ := hone_of hone 4 f4 rfl
  obtain ⟨o5, k5⟩ := hone_of hone 5 f5 rfl
  match xs, hlen with
  | [y0, y1, y2, y3, y4, y5], _ =>
   have g0 := hg 0 f0 rfl
   have g1 := hg 1 f1 rfl
   have g2 := hg 2 f2 rfl
   have g3 := hg 3 f3 rfl
   have g4 := hg 4 f4 rfl
   have g5 := hg 5 f5 rfl
   simp [o0, k0] at g0
   simp [o1, k1] at g1
   simp [o2, k2] at g2
   simp [o3, k3] at g3
   simp [o4, k4] at g4
   simp [o5, k5] at g5
   obtain ⟨z0, e0, _, m0⟩ := DataW.trod_int h0 g0
   obtain ⟨z1, e1, _, m1⟩ := DataW.trod_int h1 g1
   obtain ⟨z2, e2, _, m2⟩ := DataW.trod_int h2 g2
   obtain ⟨z3, e3, _, m3⟩ := DataW.trod_int h3 g3
   obtain ⟨z4, e4, _, m4⟩ := DataW.trod_string h4 g4
   obtain ⟨z5, e5, _, m5⟩ := DataW.trod_string h5 g5
   simp at e0 e1 e2 e3 e4 e5
   exact ⟨⟨z0, z1, z2, z3, z4, z5⟩, by rw [e0, e1, e2, e3, e4, e5], m4, m5, m0, m1, m2, m3⟩
theorem opens_op_Op {enc : TypeId × Value → H} {w : World} : Opens enc Tryz.prog w base spare held 104 opE :=
 opens_op Tryz.underlying104 (by kernel_rfl) (by kernel_rfl) Tryz.underlying3 Tryz.underlying3 Tryz.underlying3 Tryz.underlying3 Tryz.underlying9 Tryz.underlying9
end
abbrev opV (o : Opn) : Value := .agg #[.int .i64 o.kind, .int .i64 o.id, .int .i64 o.to, .int .i64 o.at_, .string o.name, .string o.text]
def OkO (o : Opn) : Prop := o.name.size ≤ maxLen ∧ o.text.size ≤ maxLen ∧ (Lit.int .i64 o.kind).wf = true ∧ (Lit.int .i64 o.id).wf = true ∧ (Lit.int .i64 o.to).wf = true ∧ (Lit.int .i64 o.at_).wf = true
theorem open_op {H : Type} {P : Program} {enc : TypeId × Value → H} {w : World} {base b0 : Nat} {spare : Nat → Bool} {held : Bool} {r : Reach} {e : TypeId} {fs : Array Field} {v : Value} {d : DataW H} {p : List MemPlace} (hs : P.underlying e = some (.struct fs)) (hE : Opens enc P w base spare held e opE)
  (hv : Value.okWide P w r b0 e v) (h : DataW.Trod enc P w base spare held e v d p) : ∃ o : Opn, v = opV o ∧ OkO o := by
 obtain ⟨cs, rfl, hsz⟩ := Go.WideShapes.okWide_struct hs hv
 obtain ⟨fuel, hf⟩ := h
 obtain ⟨o, ho, hk⟩ := hE fuel _ _ hf
 refine ⟨o, ?_, hk⟩
 have hc : cs.toList = [.int .i64 o.kind, .int .i64 o.id, .int .i64 o.to, .int .i64 o.at_, .string o.name, .string o.text] := by simpa [Value.cells] using ho
 show Value.agg cs = _
 rw [← Array.toArray_toList (xs := cs), hc]
theorem op_at {B : Nat} {w : World} {A : Option Addr} {n c : Nat} {l : List Opn} (h : RdO B w (.slice A n c) l) {i : Nat} (hi : i < l.length) :
  ∃ b o : Nat, A = some ⟨b, o, none⟩ ∧ b < B ∧ w.cell? ⟨b, o + i * 6, none⟩ = some (.int .i64 l[i].kind) ∧ w.cell? ⟨b, o + i * 6 + 1, none⟩ = some (.int .i64 l[i].id) ∧ w.cell? ⟨b, o + i * 6 + 2, none⟩ = some (.int .i64 l[i].to) ∧ w.cell? ⟨b, o + i * 6 + 3, none⟩ = some (.int .i64 l[i].at_) ∧
   w.cell? ⟨b, o + i * 6 + 4, none⟩ = some (.string l[i].name) ∧ w.cell? ⟨b, o + i * 6 + 5, none⟩ = some (.string l[i].text) ∧ l[i].name.size ≤ maxLen ∧ l[i].text.size ≤ maxLen ∧ (Lit.int .i64 l[i].id).wf = true ∧ (Lit.int .i64 l[i].to).wf = true := by
 obtain ⟨b, o, cs, e, hb, hlen, hc, hcs, m1, m2, m3, m4, m5, m6⟩ := h.at_ hi
 subst hcs
 exact ⟨b, o, e, hb, hc 0 _ rfl, hc 1 _ rfl, hc 2 _ rfl, hc 3 _ rfl, hc 4 _ rfl, hc 5 _ rfl, m1, m2, m4, m5⟩
end Go.Proofs.YtmbhkkophkccbaaGreat.Shapes
namespace Go.Proofs.YtmbhkkophkccbaaGreat.Grown
open Go Go.RowKit Go.Proofs.YtmbhkkophkccbaaGreat.Seq WS FS Mem Rd Shapes Word FFam
set_option linter.unusedVariables false
set_option linter.unusedSimpArgs false
def opB (o : Opn) : Bool := decide (o.name.size ≤ 300) && decide (o.text.size ≤ 300)
def bndO (l : List Opn) : Bool := l.all opB && decide (l.length ≤ 150)
theorem bndO_no {l : List Opn} {k : Nat} (hk : k < l.length) (h : opB l[k] = false) : bndO l = false := by
 unfold bndO
 rw [Bool.and_eq_false_iff]
 left
 rw [List.all_eq_false]
 exact ⟨l[k], List.getElem_mem _, by rw [h]; simp⟩
noncomputable def growF (l : List Opn) : Fo := l.foldl oneF newFo
theorem grow_may (l : List Opn) : mayB (growF l) = true := by
 unfold growF
 have : ∀ (l : List Opn) (f : Fo), mayB f = true → mayB (l.foldl oneF f) = true := by
  intro l
  induction l with
  | nil => exact fun f h => h
  | cons o l ih => exact fun f h => ih _ (one_may h o)
 exact this l _ new_may
theorem grow_snoc (l : List Opn) (o : Opn) : growF (l ++ [o]) = oneF (growF l) o := by unfold growF; rw [List.foldl_append]; rfl
end Go.Proofs.YtmbhkkophkccbaaGreat.Grown
end
section
namespace Go.Proofs.YtmbhkkophkccbaaGreat.FS
open Go.Proofs.YtmbhkkophkccbaaGreat.WS
set_option linter.unusedVariables false

theorem mayO_mk {o : Opn} (hk : 1 ≤ o.kind ∧ o.kind ≤ 8) (hn : o.name.size ≤ 255) (ht : o.text.size ≤ 255) (h1 : 1 ≤ shapeN o.kind ∨ o.id = 0) (h2 : 2 ≤ shapeN o.kind ∨ o.to = 0) (h3 : 3 ≤ shapeN o.kind ∨ o.at_ = 0) (h4 : shapeA o.kind = true ∨ o.name.size = 0) (h5 : shapeT o.kind = true ∨ o.text.size = 0) : mayO o = true := by
 unfold mayO
 simp only [Bool.and_eq_true, Bool.or_eq_true, decide_eq_true_eq, beq_iff_eq]
 exact ⟨⟨⟨⟨⟨⟨⟨hk, hn⟩, ht⟩, h1⟩, h2⟩, h3⟩, h4⟩, h5⟩
theorem mayO_4 (n p a : Int) : mayO { kind := 4, id := n, «to» := p, at_ := a } = true :=
 mayO_mk (show (1 : Int) ≤ 4 ∧ (4 : Int) ≤ 8 by decide) (show (⟨#[]⟩ : ByteArray).size ≤ 255 by decide) (show (⟨#[]⟩ : ByteArray).size ≤ 255 by decide) (.inl (show 1 ≤ shapeN 4 by decide)) (.inl (show 2 ≤ shapeN 4 by decide)) (.inl (show 3 ≤ shapeN 4 by decide)) (.inr rfl) (.inr rfl)
theorem mayO_5 (n : Int) : mayO { kind := 5, id := n } = true :=
 mayO_mk (show (1 : Int) ≤ 5 ∧ (5 : Int) ≤ 8 by decide) (show (⟨#[]⟩ : ByteArray).size ≤ 255 by decide) (show (⟨#[]⟩ : ByteArray).size ≤ 255 by decide) (.inl (show 1 ≤ shapeN 5 by decide)) (.inr rfl) (.inr rfl) (.inr rfl) (.inr rfl)
theorem mayO_6 (n : Int) {s t : ByteArray} (hs : s.size ≤ 255) (ht : t.size ≤ 255) : mayO { kind := 6, id := n, name := s, text := t } = true :=
 mayO_mk (show (1 : Int) ≤ 6 ∧ (6 : Int) ≤ 8 by decide) hs ht (.inl (show 1 ≤ shapeN 6 by decide)) (.inr rfl) (.inr rfl) (.inl rfl) (.inl rfl)
theorem mayO_7 (n : Int) {s : ByteArray} (hs : s.size ≤ 255) : mayO { kind := 7, id := n, name := s } = true :=
 mayO_mk (show (1 : Int) ≤ 7 ∧ (7 : Int) ≤ 8 by decide) hs (show (⟨#[]⟩ : ByteArray).size ≤ 255 by decide) (.inl (show 1 ≤ shapeN 7 by decide)) (.inr rfl) (.inr rfl) (.inl rfl) (.inr rfl)
theorem mayO_1 {s : ByteArray} (hs : s.size ≤ 255) : mayO { kind := 1, name := s } = true :=
 mayO_mk (show (1 : Int) ≤ 1 ∧ (1 : Int) ≤ 8 by decide) hs (show (⟨#[]⟩ : ByteArray).size ≤ 255 by decide) (.inr rfl) (.inr rfl) (.inr rfl) (.inl rfl) (.inr rfl)
theorem mayO_23 {k : Int} (hk : k = 2 ∨ k = 3) {t : ByteArray} (ht : t.size ≤ 255) : mayO { kind := k, text := t } = true :=
 mayO_mk (show (1 : Int) ≤ k ∧ k ≤ 8 by omega) (show (⟨#[]⟩ : ByteArray).size ≤ 255 by decide) ht (.inr rfl) (.inr rfl) (.inr rfl) (.inr rfl) (.inl (by rcases hk with rfl | rfl <;> rfl))
theorem checks_known {f : Fo} {o : Opn} (hk : 4 ≤ o.kind) : ∃ t, checks f o = (70, knownB f o) :: t := by
 unfold checks
 rw [if_neg (by omega), if_neg (by omega)]
 repeat' split
 all_goals exact ⟨_, rfl⟩
theorem one_unknown {f : Fo} {o : Opn} (hm : mayO o = true) (hk : 4 ≤ o.kind) (hn : isNode f o.id = false) : oneE f o = 70 := by
 obtain ⟨t, ht⟩ := checks_known (f := f) hk
 unfold oneE
 rw [if_pos hm, ht]
 unfold firstE knownB
 simp [hn]
theorem one_arg {f : Fo} {o : Opn} (hm : mayO o = false) : oneE f o = 1 := by
 unfold oneE
 rw [hm]
 rfl
def namedF (f : Fo) (o : Opn) (i : Nat) : Bool := decide (4 ≤ o.kind) && (o.id == i || (o.kind == 4 && o.to == i) || (isNode f o.id && (at_ f o.id).parent == i))
theorem one_keeps {f : Fo} {o : Opn} (hm : mayB f = true) (he : oneE f o = 0) : f.length ≤ (oneF f o).length ∧ (oneF f o).length ≤ f.length + 1 ∧ ∀ i : Nat, i < f.length → namedF f o i = false → at_ (oneF f o) i = at_ f i := by
 obtain ⟨hmo, hch⟩ := one_kinds he
 have hk := (mayO_kind hmo).1
 have h := may_is hm
 unfold oneF
 rw [if_pos he]
 by_cases k3 : o.kind ≤ 3
 ·unfold doF
  rw [if_pos k3]
  unfold freshF
  refine ⟨by simp, by simp, fun i hi _ => ?_⟩
  rw [at_snoc, if_neg (by omega)]
 have h4 : 4 ≤ o.kind := by omega
 obtain ⟨t, ht⟩ := checks_known (f := f) h4
 have hkn : isNode f o.id = true := hch (70, knownB f o) (by rw [ht]; simp)
 obtain ⟨n, hoi, hn⟩ := node_nat hkn
 have hset : ∀ nd : Nd, f.length ≤ (f.set o.id.toNat nd).length ∧ (f.set o.id.toNat nd).length ≤ f.length + 1 ∧ ∀ i : Nat, i < f.length → namedF f o i = false → at_ (f.set o.id.toNat nd) i = at_ f i := fun nd => by
  refine ⟨by simp, by simp, fun i hi hno => ?_⟩
  unfold namedF at hno
  rw [decide_eq_true h4, Bool.true_and, Bool.or_eq_false_iff, Bool.or_eq_false_iff, hoi] at hno
  have h1 := hno.1.1
  rw [beq_eq_false_iff_ne] at h1
  rw [hoi, Int.toNat_natCast, set_at hn, if_neg (fun e => h1 e.symm)]
 unfold doF
 rw [if_neg k3]
 by_cases k4 : o.kind = 4
 ·rw [if_pos k4]
  unfold checks at hch
  rw [if_neg (by omega), if_neg (by omega), if_pos k4] at hch
  obtain ⟨t, hot, ht'⟩ := node_nat (k := o.to) (hch (70, isNode f o.to) (by simp))
  refine ⟨by rw [insert_length]; omega, by rw [insert_length]; omega, fun i hi hno => ?_⟩
  unfold namedF at hno
  rw [decide_eq_true h4, Bool.true_and, Bool.or_eq_false_iff, Bool.or_eq_false_iff, hkn, Bool.true_and, k4, hoi, hot] at hno
  obtain ⟨⟨h1, h2⟩, h3⟩ := hno
  rw [beq_eq_false_iff_ne] at h1 h3
  have h2' : ¬ (t : Int) = (i : Int) := by simpa using h2
  rw [insert_at h hoi hot hn ht', if_neg (fun e => h1 e.symm), if_neg (fun e => h2' e.symm), filter_none (not_kid h h3)]
 rw [if_neg k4]
 by_cases k5 : o.kind = 5
 ·rw [if_pos k5]
  refine ⟨by rw [take_length]; omega, by rw [take_length]; omega, fun i hi hno => ?_⟩
  unfold namedF at hno
  rw [decide_eq_true h4, Bool.true_and, Bool.or_eq_false_iff, Bool.or_eq_false_iff, hkn, Bool.true_and, hoi] at hno
  obtain ⟨⟨h1, h2⟩, h3⟩ := hno
  rw [beq_eq_false_iff_ne] at h1 h3
  rw [hoi, take_at h hn, if_neg (fun e => h1 e.symm), filter_none (not_kid h h3)]
 rw [if_neg k5]
 repeat' split
 all_goals exact hset _
noncomputable def allE : Fo → List Opn → Int
 | _, [] => 0
 | f, o :: l => if oneE f o = 0 then allE (oneF f o) l else oneE f o
noncomputable def allN : Fo → List Opn → Nat
 | _, [] => 0
 | f, o :: l => if oneE f o = 0 then allN (oneF f o) l + 1 else 0
noncomputable def allG : Fo → List Opn → Fo
 | f, [] => f
 | f, o :: l => if oneE f o = 0 then allG (oneF f o) l else f
noncomputable def allF (f : Fo) (l : List Opn) : Fo := if allE f l = 0 then allG f l else f
theorem allG_may : ∀ (l : List Opn) (f : Fo), mayB f = true → mayB (allG f l) = true
 | [], f, h => h
 | o :: l, f, h => by
  unfold allG
  split
  ·exact allG_may l _ (one_may h o)
  ·exact h
theorem allF_may {f : Fo} (h : mayB f = true) (l : List Opn) : mayB (allF f l) = true := by
 unfold allF
 split
 ·exact allG_may l f h
 ·exact h
theorem allN_le : ∀ (l : List Opn) (f : Fo), allN f l ≤ l.length
 | [], f => Nat.le_refl _
 | o :: l, f => by
  unfold allN
  split
  ·have := allN_le l (oneF f o); simp; omega
  ·simp
theorem allN_full : ∀ (l : List Opn) (f : Fo), allE f l = 0 → allN f l = l.length
 | [], f, _ => rfl
 | o :: l, f, h => by
  unfold allE at h
  unfold allN
  split at h
  ·rename_i h0
   rw [if_pos h0, allN_full l _ h]; rfl
  ·rename_i h0; exact absurd h h0
theorem allN_lt : ∀ (l : List Opn) (f : Fo), allE f l ≠ 0 → allN f l < l.length
 | [], f, h => absurd rfl h
 | o :: l, f, h => by
  unfold allE at h
  unfold allN
  split at h
  ·rename_i h0
   rw [if_pos h0]
   have := allN_lt l _ h
   simp; omega
  ·rename_i h0
   rw [if_neg h0]; simp
theorem all_append : ∀ (a b : List Opn) (f : Fo), allE f (a ++ b) = (if allE f a = 0 then allE (allG f a) b else allE f a) ∧ allN f (a ++ b) = (if allE f a = 0 then a.length + allN (allG f a) b else allN f a) ∧ (allE f a = 0 → allG f (a ++ b) = allG (allG f a) b)
 | [], b, f => by simp [allE, allG]
 | o :: a, b, f => by
  obtain ⟨h1, h2, h3⟩ := all_append a b (oneF f o)
  by_cases h0 : oneE f o = 0
  ·simp only [List.cons_append, allE, allN, allG, if_pos h0, h1, h2]
   refine ⟨trivial, ?_, h3⟩
   split
   ·simp; omega
   ·rfl
  ·simp only [List.cons_append, allE, allN, allG, if_neg h0]
   exact ⟨trivial, trivial, fun h => absurd h h0⟩
end Go.Proofs.YtmbhkkophkccbaaGreat.FS
end
