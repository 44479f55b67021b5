import Derived.Shelf.RegionOpenPlain
import Derived.Deep.RegionLaw
import Derived.Lib.SliceRun
import Derived.Laws.IdiomCopy
import Derived.Test.YtmbhkkophkccbaaGreatC11
import Derived.Test.YtmbhkkophkccbaaGreatC05
import Derived.Test.YtmbhkkophkccbaaGreatC07
section
namespace Go.Proofs.YtmbhkkophkccbaaGreat.Work
open Go Go.RowKit Go.Proofs.YtmbhkkophkccbaaGreat.Seq WS FS Mem Rd Shapes Word FFam OwnF
set_option linter.unusedVariables false
set_option linter.unusedSimpArgs false

section
variable [Avoid] {base wk g c : Nat} {o : Opn} {f : Fo}
theorem alone_facts {f : Fo} {w : World} (h : Wk base wk g c o f w) {k : Nat} (hk : o.id = (k : Int)) (hkl : k < f.length) (pv : Int) (hpv : (Lit.int .i64 pv).wf = true) (n : Nat) :
  (∃ u, (w.drewN n).cell? ⟨g, k * 6 + 4, none⟩ = some (.int .i64 u)) ∧ (w.drewN n).frozen? ⟨g, k * 6 + 4, none⟩ = false ∧
  Wk base wk g c o (f.set k { at_ f (k : Int) with parent := pv }) ((w.drewN n).setCell ⟨g, k * 6 + 4, none⟩ (.int .i64 pv)) ∧ Below base (w.drewN n) ((w.drewN n).setCell ⟨g, k * 6 + 4, none⟩ (.int .i64 pv)) := by
 have hi : isNode f (k : Int) = true := (node_iff _ _).2 ⟨by omega, by omega⟩
 have h' := h.below (drewN_below (Below.refl _ _) n)
 obtain ⟨_, _, _, _, _, _, k4, _, _, _⟩ := h'.node hi
 rw [Int.toNat_natCast] at k4
 have e : at_ f (k : Int) = f[k] := at_nat hkl
 have hput := h'.put (j := 4) (u := .int .i64 pv) (n := { f[k] with parent := pv }) hkl (by decide) (fun cs hcs => by
  obtain ⟨va, vk, rfl, r1, r2, r3, r4, r5, r6⟩ := hcs
  exact ⟨va, vk, rfl, r1, r2, r3, r4, r5, hpv⟩)
 rw [e]
 exact ⟨⟨_, k4⟩, (h'.free (by omega)).1 _, hput.1, hput.2⟩
theorem kids_put {f : Fo} {w w' : World} (h : Wk base wk g c o f w) {k : Nat} (hkl : k < f.length) (v' : Value) (l : List Int) (hr : RdS intS 1 (fun b => w.heap.size ≤ b) w' v' l) (hb : Below w.heap.size w w') :
  Wk base wk g c o (f.set k { at_ f (k : Int) with kids := l }) (w'.setCell ⟨g, k * 6 + 5, none⟩ v') ∧ Below base w' (w'.setCell ⟨g, k * 6 + 5, none⟩ v') := by
 have h' := h.below hb
 have hgl := (h.base_le (by omega)).2
 have hgb := (h.base_le (by omega)).1
 have hlo := h.lo
 have hwl := lt_heap h.box
 have e : at_ f (k : Int) = f[k] := at_nat hkl
 rw [e]
 exact h'.put (j := 5) (u := v') (n := { f[k] with kids := l }) hkl (by decide) (fun cs hcs => by
  obtain ⟨va, vk, rfl, r1, r2, r3, r4, r5, r6⟩ := hcs
  exact ⟨va, v', rfl, r1, hr.keep (fun _ _ _ => rfl) (Nat.le_refl _) (fun b hb _ => by omega), r3, r4, r5, r6⟩)
end
section
variable {base wk g c : Nat} {o : Opn} {f : Fo}
theorem kids_wf {w : World} {v : Value} {l : List Int} {S : Nat → Prop} (h : RdS intS 1 S w v l) : ∀ y ∈ l, (Lit.int .i64 y).wf = true := by
 intro y hy
 obtain ⟨i, hi, rfl⟩ := List.mem_iff_getElem.1 hy
 obtain ⟨A, c, _, _, _, h3⟩ := h
 obtain ⟨b, o, _, _, _, hc⟩ := h3 (by omega)
 obtain ⟨cs, _, _, _, h5⟩ := hc i hi
 exact h5
end
section
variable [Avoid] {base wk g c : Nat} {o : Opn} {f : Fo}
end
section
variable {base wk g c : Nat} {o : Opn} {f : Fo}
theorem take_top {f : Fo} {k : Nat} (hp : (at_ f (k : Int)).parent = -1) : takeF f (k : Int) = f.set k { at_ f (k : Int) with parent := -1 } := by
 unfold takeF
 simp only [hp, if_true, Int.toNat_natCast]
end
section
variable [Avoid] {base wk g c : Nat} {o : Opn} {f : Fo}
end
section
variable {base wk g c : Nat} {o : Opn} {f : Fo}
theorem take_kid {f : Fo} {k p : Nat} (hp : (at_ f (k : Int)).parent = (p : Int)) : takeF f (k : Int) = (f.set p { at_ f (p : Int) with kids := (at_ f (p : Int)).kids.filter (· != (k : Int)) }).set k { at_ (f.set p { at_ f (p : Int) with kids := (at_ f (p : Int)).kids.filter (· != (k : Int)) }) (k : Int) with parent := -1 } := by
 unfold takeF
 have : ¬ ((p : Int) = -1) := by omega
 simp only [hp, if_neg this, Int.toNat_natCast]
end
section
variable [Avoid] {base wk g c : Nat} {o : Opn} {f : Fo}
theorem node_at2 {f f' : Fo} {w : World} (h : Wk base wk g c o f' w) (hl : f'.length = f.length) {k : Nat} (hk : o.id = (k : Int)) (hkl : k < f.length) :
  Calls Tryz.prog 173 #[.pointer (some ⟨wk, 0, none⟩)] w fun e w' => e = .returned (.pointer (some ⟨g, k * 6, none⟩)) ∧ ∃ n, w' = w.drewN n := by
 have := node_calls w h (by rw [hk]; exact (node_iff _ _).2 ⟨by omega, by omega⟩)
 rw [hk] at this
 exact this
set_option maxHeartbeats 20000000 in
theorem take_do (hm : mayB f = true) (hi : isNode f o.id = true) (hbw : base ≤ wk) : Do 172 base wk g c o f (takeF f o.id) := by
 intro w h
 have hfam := may_family hm
 obtain ⟨k, hk, hkl⟩ := node_nat hi
 rw [hk]
 have hi' := hi
 rw [hk] at hi'
 obtain ⟨_, _, _, _, _, _, k4, _, _, _⟩ := h.node hi'
 rw [Int.toNat_natCast] at k4
 have hbs := h.base_size (by omega)
 have h4 := fun w' (hb : Below w.heap.size w w') => cell_grow hb k4
 have hn := fun (f' : Fo) w' (h : Wk base wk g c o f' w') (hl : f'.length = f.length) => node_at2 h hl hk hkl
 have Hn := Lib.hid hn; have H4 := Lib.hid h4; have H := Lib.hid h; have Hk := Lib.hid hk; have Hm := Lib.hid hm; have Hi := Lib.hid hi'; have Hfam := Lib.hid hfam
 have hwl := lt_heap h.box
 have hgl := (h.base_le (by omega)).2
 have hgb := (h.base_le (by omega)).1
 clear hn h4 h hk hm hi hi' k4 hfam
 obtain ⟨pr, hpr⟩ : ∃ pr, (at_ f (k : Int)).parent = pr := ⟨_, rfl⟩
 rw [hpr] at H4
 have Hpr := Lib.hid hpr
 clear hpr
 by_cases hp1 : pr = -1
 ·subst hp1
  go_enter Tryz.func172, Tryz.ntmps172
  go_wp2_with fail
  obtain ⟨bx, hbx⟩ : ∃ bx, bx = w.heap.size := ⟨_, rfl⟩
  obtain ⟨w1, hw1⟩ : ∃ w1, w.alloc (.cells #[.pointer (some ⟨wk, 0, none⟩)] 176) = w1 := ⟨_, rfl⟩
  have hb1 : Below w.heap.size w w1 := by rw [← hw1]; exact (Below.refl _ _).alloc (Nat.le_refl _) _
  have q : w1.cell? ⟨bx, 0, none⟩ = some (.pointer (some ⟨wk, 0, none⟩)) := by rw [← hw1, hbx]; exact (cell_of_row _ _ _ _ _ _ (World.alloc_heap_new _ _)).trans rfl
  have hn1 := Hn.out f _ (H.out.below hb1) rfl
  have Hn1 := Lib.hid hn1; have Hb1 := Lib.hid hb1; have Hq := Lib.hid q
  rw [hw1, ← hbx]
  have k6 := H4.out _ Hb1.out
  have f6 := ((H.out.below Hb1.out).free (by omega)).1 (k * 6 + 4)
  clear hn1 hb1 hw1 q hbx
  go_wp2_with (first
   | (go_at_call 173; (with_reducible refine (Hn1.out).mono ?_); rintro e w5 ⟨rfl, n5, rfl⟩; have hb5 := drewN_below Hb1.out n5; have p4 := H4.out _ hb5; have q5 := cell_grow (drewN_below (Below.refl _ w1) n5) Hq.out; have hn5 := Hn.out f _ (H.out.below hb5) rfl; have Hn5 := Lib.hid hn5; have Hb5 := Lib.hid hb5; clear hb5 hn5)
   | (go_at_call 173; (with_reducible refine (Hn5.out).mono ?_); rintro e w6 ⟨rfl, n6, rfl⟩; have hp6 := (alone_facts (H.out.below Hb1.out) Hk.out hkl (-1) rfl (n5 + n6)).2.2; have Hp6 := Lib.hid hp6; clear hp6))
  first | go_end0 | refine bodyPost_ret (results_none rfl _ _ _) rfl ?_
  rw [take_top Hpr.out]
  exact ⟨rfl, _, _, Hp6.out.1, (((drewN_below Hb1.out (n5 + n6))).mono hbs).trans Hp6.out.2⟩
 ·have hpn := kid_of_parent Hfam.out Hi.out (by
   have := (fam_parent Hfam.out Hi.out).1
   rw [Hpr.out] at this ⊢
   omega)
  rw [Hpr.out] at hpn
  obtain ⟨p, rfl, hpl⟩ := node_nat hpn.1
  have e1 : ((p : Int) != -1) = true := by rw [bne_iff_ne]; omega
  have hmem := List.length_pos_of_mem hpn.2
  have hlen := may_kids Hm.out f[p] (List.getElem_mem _)
  rw [← at_nat hpl] at hlen
  obtain ⟨_, vk, _, _, _, _, _, k5, _, rk⟩ := H.out.node hpn.1
  rw [Int.toNat_natCast] at k5
  obtain ⟨Ak, ck, rfl, hck, hcm⟩ := rk.form
  have hwf := kids_wf rk
  have hc5 := fun w' (hb : Below w.heap.size w w') => (⟨cell_grow hb H.out.cells.1, cell_grow hb k5, ((H.out.below hb).free (by omega)).1 (p * 6 + 5)⟩ : w'.cell? ⟨wk, 0, none⟩ = some (.slice (some ⟨g, 0, none⟩) f.length c) ∧ w'.cell? ⟨g, p * 6 + 5, none⟩ = some (.slice Ak (at_ f (p : Int)).kids.length ck) ∧ w'.frozen? ⟨g, p * 6 + 5, none⟩ = false)
  have hrk := fun w' (hb : Below w.heap.size w w') => (rk.keep (fun b _ hl => hb.block b hl) hb.size (fun b x _ => x)).rd
  have hcl : ∀ W, Below w.heap.size w W → Calls Tryz.prog 134 #[.slice Ak (at_ f (p : Int)).kids.length ck] W fun e w' => ∃ v', e = .returned v' ∧ w'.ownsRow W.heap.size 3 1 v' (at_ f (p : Int)).kids.length ((at_ f (p : Int)).kids.map (Value.int .i64)) ∧ Below W.heap.size W w' := fun W hW => cloneI_calls W _ _ (hrk W hW) (by omega)
  have h2c := fun w' (hb : Below w.heap.size w w') => cell_grow hb H.out.cells.2.2.1
  rw [Hk.out] at h2c
  have hdel : ∀ (B bx : Nat) (v' : Value) (W : World), Below w.heap.size w W → W.ownsRow B 3 1 v' (at_ f (p : Int)).kids.length ((at_ f (p : Int)).kids.map (Value.int .i64)) → bx < B → wk < B → B ≤ W.heap.size → W.cell? ⟨bx, 0, none⟩ = some (.pointer (some ⟨wk, 0, none⟩)) →
    Calls Tryz.prog 212 #[v', .func (.func 213) #[] #[.pointer (some ⟨bx, 0, none⟩)]] W fun e w' => ∃ v'', e = .returned v'' ∧ RdS intS 1 (fun b => B ≤ b) w' v'' ((at_ f (p : Int)).kids.filter (· != (k : Int))) ∧ Below B W w' :=
   fun B bx v' W hW ho hbB hwB hBs hbc => deleteFunc_calls W B bx wk k v' _ ho hmem (by omega) hwf hbB hwB hbc (h2c W hW) hBs
  have Hcl := Lib.hid hcl; have Hdel := Lib.hid hdel; have Hc5 := Lib.hid hc5
  have hpn2 : (p : Int) < f.length := by omega
  have hlc := H.out.big
  clear hrk hcl hdel hc5 h2c hwf rk k5 hmem hpn hlen
  generalize (at_ f (p : Int)).kids.length = np at *
  go_enter Tryz.func172, Tryz.ntmps172
  go_wp2_with fail
  obtain ⟨bx, hbx⟩ : ∃ bx, bx = w.heap.size := ⟨_, rfl⟩
  obtain ⟨w1, hw1⟩ : ∃ w1, w.alloc (.cells #[.pointer (some ⟨wk, 0, none⟩)] 176) = w1 := ⟨_, rfl⟩
  have hb1 : Below w.heap.size w w1 := by rw [← hw1]; exact (Below.refl _ _).alloc (Nat.le_refl _) _
  have q : w1.cell? ⟨bx, 0, none⟩ = some (.pointer (some ⟨wk, 0, none⟩)) := by rw [← hw1, hbx]; exact (cell_of_row _ _ _ _ _ _ (World.alloc_heap_new _ _)).trans rfl
  have hbl : bx < w1.heap.size := by rw [← hw1, hbx]; simp
  have hbg : bx ≠ g := by omega
  have hn1 := Hn.out f _ (H.out.below hb1) rfl
  have Hn1 := Lib.hid hn1; have Hb1 := Lib.hid hb1; have Hq := Lib.hid q
  rw [hw1, ← hbx]
  clear hn1 hb1 hw1 q hbx
  go_upto_region 3 with (go_at_call 173; (with_reducible refine (Hn1.out).mono ?_); rintro e w5 ⟨rfl, n5, rfl⟩; have hb5 := drewN_below Hb1.out n5; have p4 := H4.out _ hb5; have q5 := cell_grow (drewN_below (Below.refl _ w1) n5) Hq.out; have Hb5 := Lib.hid hb5; clear hb5)
  obtain ⟨w3, hw3⟩ : ∃ w3, w1.drewN n5 = w3 := ⟨_, rfl⟩
  have hb3 : Below w.heap.size w w3 := by rw [← hw3]; exact Hb5.out
  have hb13 : w1.heap.size ≤ w3.heap.size := by rw [← hw3]; exact Nat.le_refl _
  rw [hw3] at q5 ⊢
  have hbl3 : bx < w3.heap.size := by omega
  have hwl3 : wk < w3.heap.size := by have := hb3.size; omega
  obtain ⟨c0, c5, f5⟩ := Hc5.out _ hb3
  have Hb3 := Lib.hid hb3
  clear hb3 hb13 hw3 p4 Hb5 Hn1 Hb1 Hq
  have hcl3 : ∀ W, (W = w3 ∨ W = w3.drew) → Calls Tryz.prog 134 #[.slice Ak np ck] W fun e w' => ∃ v', e = .returned v' ∧ w'.ownsRow w3.heap.size 3 1 v' np ((at_ f (p : Int)).kids.map (Value.int .i64)) ∧ Below w3.heap.size w3 w' := by
   rintro W (rfl | rfl)
   ·exact Hcl.out _ Hb3.out
   ·exact (Hcl.out w3.drew Hb3.out.drew).mono (fun e w' ⟨v', h1, h2, h3⟩ => ⟨v', h1, h2, (Below.refl _ w3).drew.trans h3⟩)
  have hdel3 : ∀ v' w6, w6.ownsRow w3.heap.size 3 1 v' np ((at_ f (p : Int)).kids.map (Value.int .i64)) → Below w3.heap.size w3 w6 → ∀ W, (W = w6 ∨ W = w6.drew) →
    Calls Tryz.prog 212 #[v', .func (.func 213) #[] #[.pointer (some ⟨bx, 0, none⟩)]] W fun e w' => ∃ v'', e = .returned v'' ∧ RdS intS 1 (fun b => w3.heap.size ≤ b) w' v'' ((at_ f (p : Int)).kids.filter (· != (k : Int))) ∧ Below w3.heap.size w3 w' := by
   rintro v' w6 ho hb6 W (rfl | rfl)
   ·exact (Hdel.out w3.heap.size bx v' W (bthen Hb3.out hb6) ho hbl3 hwl3 hb6.size (cell_grow hb6 q5)).mono (fun e w' ⟨v'', h1, h2, h3⟩ => ⟨v'', h1, h2, hb6.trans h3⟩)
   ·exact (Hdel.out w3.heap.size bx v' w6.drew (bthen Hb3.out hb6).drew ho.drew hbl3 hwl3 hb6.size (cell_grow hb6.drew q5)).mono (fun e w' ⟨v'', h1, h2, h3⟩ => ⟨v'', h1, h2, hb6.drew.trans h3⟩)
  have hce : ∀ w', Below w3.heap.size w3 w' → w'.cell? ⟨bx, 0, none⟩ = some (.pointer (some ⟨wk, 0, none⟩)) ∧ w'.cell? ⟨wk, 0, none⟩ = some (.slice (some ⟨g, 0, none⟩) f.length c) ∧ w'.cell? ⟨g, p * 6 + 5, none⟩ = some (.slice Ak np ck) ∧ w'.frozen? ⟨g, p * 6 + 5, none⟩ = false := fun w' hb => ⟨cell_grow hb q5, Hc5.out _ (bthen Hb3.out hb)⟩
  have Hcl3 := Lib.hid hcl3; have Hdel3 := Lib.hid hdel3; have Hce := Lib.hid hce
  clear hcl3 hdel3 hce Hcl Hdel
  have hnw := H.out.ne
  refine wp_region_held_drew (S := (fun w' => w'.cell? ⟨bx, 0, none⟩ = some (.pointer (some ⟨wk, 0, none⟩)) ∧ w'.cell? ⟨wk, 0, none⟩ = some (.slice (some ⟨g, 0, none⟩) f.length c))) (by kernel_rfl) ⟨q5, c0⟩ (fun hHeld => ?_)
  refine' wpAnyH_take (i := 0) (v := ?v0) rfl (by kernel_rfl) (by kernel_rfl) (by kernel_rfl) (fun _ _ _ h => h) (Or.inl ⟨by rfl, ?hy0⟩) (by assumption) ?rest0
  case hy0 => (intro w hSw; (try dsimp only at hSw); go_simp; (try with_reducible rfl))
  (try simp only [Act.put, List.setIfInBounds_toArray, List.set_cons_zero, List.set_cons_succ])
  refine' wpAnyH_take (i := 1) (v := ?v1) rfl (by kernel_rfl) (by kernel_rfl) (by kernel_rfl) (fun _ _ _ h => h) (Or.inl ⟨by rfl, ?hy1⟩) (by assumption) ?rest1
  case hy1 => (intro w hSw; (try dsimp only at hSw); go_simp; (try with_reducible rfl))
  (try simp only [Act.put, List.setIfInBounds_toArray, List.set_cons_zero, List.set_cons_succ])
  refine' wpAnyH_take (i := 2) (v := ?v2) rfl (by kernel_rfl) (by kernel_rfl) (by kernel_rfl) (fun _ _ _ h => h) (Or.inl ⟨by rfl, ?hy2⟩) (by assumption) ?rest2
  case hy2 => (intro w hSw; (try dsimp only at hSw); go_simp; (try with_reducible rfl))
  (try simp only [Act.put, List.setIfInBounds_toArray, List.set_cons_zero, List.set_cons_succ])
  refine' wpAnyH_take (i := 3) (v := ?v3) rfl (by kernel_rfl) (by kernel_rfl) (by kernel_rfl) (fun _ _ _ h => h) (Or.inl ⟨by rfl, ?hy3⟩) (by assumption) ?rest3
  case hy3 => (intro w hSw; (try dsimp only at hSw); go_simp; (try with_reducible rfl))
  (try simp only [Act.put, List.setIfInBounds_toArray, List.set_cons_zero, List.set_cons_succ])
  refine' wpAnyH_take (i := 4) (v := ?v4) rfl (by kernel_rfl) (by kernel_rfl) (by kernel_rfl) (fun _ _ _ h => h) (Or.inl ⟨by rfl, ?hy4⟩) (by assumption) ?rest4
  case hy4 => (intro w hSw; (try dsimp only at hSw); go_simp; (try with_reducible rfl))
  (try simp only [Act.put, List.setIfInBounds_toArray, List.set_cons_zero, List.set_cons_succ])
  refine' wpAnyH_take (i := 5) (v := ?v5) rfl (by kernel_rfl) (by kernel_rfl) (by kernel_rfl) (fun _ _ _ h => h) (Or.inl ⟨by rfl, ?hy5⟩) (by assumption) ?rest5
  case hy5 => (intro w hSw; (try dsimp only at hSw); go_simp; (try with_reducible rfl))
  (try simp only [Act.put, List.setIfInBounds_toArray, List.set_cons_zero, List.set_cons_succ])
  refine' wpAnyH_take (i := 6) (v := ?v6) rfl (by kernel_rfl) (by kernel_rfl) (by kernel_rfl) (fun _ _ _ h => h) (Or.inl ⟨by rfl, ?hy6⟩) (by assumption) ?rest6
  case hy6 => (intro w hSw; (try dsimp only at hSw); go_simp; (try with_reducible rfl))
  (try simp only [Act.put, List.setIfInBounds_toArray, List.set_cons_zero, List.set_cons_succ])
  refine' wpAnyH_take (i := 7) (v := ?v7) rfl (by kernel_rfl) (by kernel_rfl) (by kernel_rfl) (fun _ _ _ h => h) (Or.inl ⟨by rfl, ?hy7⟩) (by assumption) ?rest7
  case hy7 => (intro w hSw; (try dsimp only at hSw); go_simp; (try with_reducible rfl))
  (try simp only [Act.put, List.setIfInBounds_toArray, List.set_cons_zero, List.set_cons_succ])
  refine' wpAnyH_take (i := 8) (v := ?v8) rfl (by kernel_rfl) (by kernel_rfl) (by kernel_rfl) (fun _ _ _ h => h) (Or.inl ⟨by rfl, ?hy8⟩) (by assumption) ?rest8
  case hy8 => (intro w hSw; (try dsimp only at hSw); go_simp; (try with_reducible rfl))
  (try simp only [Act.put, List.setIfInBounds_toArray, List.set_cons_zero, List.set_cons_succ])
  refine' wpAnyH_take (i := 9) (v := ?v9) rfl (by kernel_rfl) (by kernel_rfl) (by kernel_rfl) (fun _ _ _ h => h) (Or.inl ⟨by rfl, ?hy9⟩) (by assumption) ?rest9
  case hy9 => (intro w hSw; (try dsimp only at hSw); go_simp; (try with_reducible rfl))
  (try simp only [Act.put, List.setIfInBounds_toArray, List.set_cons_zero, List.set_cons_succ])
  refine' wpAnyH_take (i := 10) (v := ?v10) rfl (by kernel_rfl) (by kernel_rfl) (by kernel_rfl) (fun _ _ _ h => h) (Or.inl ⟨by rfl, ?hy10⟩) (by assumption) ?rest10
  case hy10 => (intro w hSw; (try dsimp only at hSw); go_simp; (try with_reducible rfl))
  (try simp only [Act.put, List.setIfInBounds_toArray, List.set_cons_zero, List.set_cons_succ])
  refine' wpAnyH_take (i := 11) (v := ?v11) rfl (by kernel_rfl) (by kernel_rfl) (by kernel_rfl) (fun _ _ _ h => h) (Or.inl ⟨by rfl, ?hy11⟩) (by assumption) ?rest11
  case hy11 => (intro w hSw; (try dsimp only at hSw); go_simp; (try with_reducible rfl))
  (try simp only [Act.put, List.setIfInBounds_toArray, List.set_cons_zero, List.set_cons_succ])
  refine' wpAnyH_take (i := 14) (v := ?v14) rfl (by kernel_rfl) (by kernel_rfl) (by kernel_rfl) (fun _ _ _ h => h) (Or.inl ⟨by rfl, ?hy14⟩) (by assumption) ?rest14
  case hy14 => (intro w hSw; (try dsimp only at hSw); go_simp; (try with_reducible rfl))
  (try simp only [Act.put, List.setIfInBounds_toArray, List.set_cons_zero, List.set_cons_succ])
  refine wpAnyH_ready (rs := [12]) (by kernel_rfl) (by simp) ?_
  refine AllReadyH.cons rfl (fun K hK => ?_) AllReadyH.nil
  go_simp
  refine hK.out _ _ hHeld (fun hHeld => ?_)
  clear hK K
  (try simp only [Act.put, List.setIfInBounds_toArray, List.set_cons_zero, List.set_cons_succ])
  refine wpAnyH_ready (rs := [13]) (by kernel_rfl) (by simp) ?_
  refine AllReadyH.cons rfl (fun K hK => ?_) AllReadyH.nil
  go_simp
  go_at_call 134
  refine (Hcl3.out _ (.inr rfl)).mono ?_
  rintro e w6 ⟨v6, rfl, ho6, hb6⟩
  obtain ⟨d1, d2, d3, d4⟩ := Hce.out _ hb6
  have Ho6 := Lib.hid ho6; have Hb6 := Lib.hid hb6
  clear ho6 hb6
  go_simp
  refine hK.out _ _ ⟨d1, d2⟩ (fun hHeld => ?_)
  clear hK K
  (try simp only [Act.put, List.setIfInBounds_toArray, List.set_cons_zero, List.set_cons_succ])
  refine wpAnyH_ready (rs := [15]) (by kernel_rfl) (by simp) ?_
  refine AllReadyH.cons rfl (fun K hK => ?_) AllReadyH.nil
  go_simp
  go_at_call 212
  refine (Hdel3.out _ _ Ho6.out Hb6.out _ (.inl rfl)).mono ?_
  rintro e w7 ⟨v7, rfl, hr7, hb7⟩
  obtain ⟨A7, c7, rfl, _, _⟩ := hr7.form
  obtain ⟨s1, s2, s3, s4⟩ := Hce.out _ hb7
  have Hr7 := Lib.hid hr7; have Hb7 := Lib.hid hb7
  clear hr7 hb7
  go_simp
  refine hK.out _ _ ⟨s1, s2⟩ (fun hHeld => ?_)
  clear hK K
  (try simp only [Act.put, List.setIfInBounds_toArray, List.set_cons_zero, List.set_cons_succ])
  refine' wpAnyH_take (i := 16) (v := ?v16) rfl (by kernel_rfl) (by kernel_rfl) (by kernel_rfl) (fun _ _ _ h => h) (Or.inl ⟨by rfl, ?hy16⟩) (by assumption) ?rest16
  case hy16 => (intro w hSw; (try dsimp only at hSw); go_simp; (try with_reducible rfl))
  (try simp only [Act.put, List.setIfInBounds_toArray, List.set_cons_zero, List.set_cons_succ])
  refine' wpAnyH_take (i := 17) (v := ?v17) rfl (by kernel_rfl) (by kernel_rfl) (by kernel_rfl) (fun _ _ _ h => h) (Or.inl ⟨by rfl, ?hy17⟩) (by assumption) ?rest17
  case hy17 => (intro w hSw; (try dsimp only at hSw); go_simp; (try with_reducible rfl))
  (try simp only [Act.put, List.setIfInBounds_toArray, List.set_cons_zero, List.set_cons_succ])
  refine wpAnyH_ready (rs := [18]) (by kernel_rfl) (by simp) ?_
  refine AllReadyH.cons rfl (fun K hK => ?_) AllReadyH.nil
  go_simp
  refine hK.out _ _ ⟨(OwnF.cell_same (Below.heap_setCell _ _ _ _ hbg) _).trans s1, (OwnF.cell_same (Below.heap_setCell _ _ _ _ (fun e => hnw e.symm)) _).trans s2⟩ (fun hHeld => ?_)
  clear hK K
  (try simp only [Act.put, List.setIfInBounds_toArray, List.set_cons_zero, List.set_cons_succ])
  refine wpAnyH_done (by kernel_rfl) ?_ _
  obtain ⟨w8, hw8⟩ : ∃ w8, w7.setCell ⟨g, p * 6 + 5, none⟩ (.slice A7 ((at_ f (p : Int)).kids.filter (· != (k : Int))).length c7) = w8 := ⟨_, rfl⟩
  have hkp := kids_put (H.out.below Hb3.out) hpl _ _ Hr7.out Hb7.out
  have hq8 := hHeld.1
  rw [hw8] at hkp hq8 ⊢
  obtain ⟨hW8, hB8⟩ := hkp
  have hkl8 : k < (f.set p { at_ f (p : Int) with kids := (at_ f (p : Int)).kids.filter (· != (k : Int)) }).length := by rw [List.length_set]; exact hkl
  have hn8 := Hn.out _ w8 hW8 (by rw [List.length_set])
  have hal := fun n => alone_facts hW8 Hk.out hkl8 (-1) rfl n
  obtain ⟨u8, k8⟩ : ∃ u, w8.cell? ⟨g, k * 6 + 4, none⟩ = some (.int .i64 u) := (hal 0).1
  have f8 : w8.frozen? ⟨g, k * 6 + 4, none⟩ = false := (hal 0).2.1
  have hBB : Below base w w8 := ((Hb3.out.mono hbs).trans (Hb7.out.mono (by have := Hb3.out.size; omega))).trans hB8
  have HBB := Lib.hid hBB; have Hn8 := Lib.hid hn8; have Hal := Lib.hid hal
  clear hW8 hB8 hn8 hal hBB hw8 hHeld Hb7 Hr7 Ho6 Hb6 s1 s2 s3 s4 d1 d2 d3 d4 Hce Hdel3 Hcl3
  go_wp2_with (go_at_call 173; ((with_reducible refine (Hn8.out).mono ?_); rintro e w9 ⟨rfl, n9, rfl⟩))
  first | go_end0 | refine bodyPost_ret (results_none rfl _ _ _) rfl ?_
  rw [take_kid Hpr.out]
  exact ⟨rfl, _, _, (Hal.out n9).2.2.1, (HBB.out.trans (drewN_below (Below.refl _ _) n9)).trans (Hal.out n9).2.2.2⟩
end
end Go.Proofs.YtmbhkkophkccbaaGreat.Work
end
section
namespace Go.Proofs.YtmbhkkophkccbaaGreat.Work
open Go Go.RowKit Go.Shelf Go.Proofs.YtmbhkkophkccbaaGreat.Seq WS FS Mem Rd Shapes Word FFam OwnF
set_option linter.unusedVariables false
set_option linter.unusedSimpArgs false

theorem info_attr : (Tryz.prog.info? 112).map (fun i => (i.zero, i.size, i.bytes)) = some (some (.agg #[.string ⟨#[]⟩, .string ⟨#[]⟩]), 2, 32) := by kernel_rfl
theorem RdS_attrs {S : Nat → Prop} {w : World} {b c : Nat} {l : List Av} (n : Nat) (hn : l.length = n) (hc : l.length ≤ c) (hm : c ≤ maxLen) (hS : S b) (hlt : b < w.heap.size) (hcell : ∀ m u, (Its.atCells l)[m]? = some u → w.cell? ⟨b, m, none⟩ = some u) (hsm : ∀ a ∈ l, a.name.size ≤ maxLen ∧ a.value.size ≤ maxLen) :
  RdS attrS 2 S w (.slice (some ⟨b, 0, none⟩) n c) l := by
 subst hn
 refine ⟨_, _, rfl, hc, hm, fun h1 => ⟨b, 0, rfl, hS, hlt, fun i hi => ⟨[.string l[i].name, .string l[i].value], rfl, fun j u hj => ?_, rfl, (hsm _ (List.getElem_mem hi)).1, (hsm _ (List.getElem_mem hi)).2⟩⟩⟩
 refine hcell _ _ ?_
 have ha := Its.atCells_at hi
 have hjl : j < 2 := by have := (List.getElem?_eq_some_iff.1 hj).1; simpa using this
 rw [← ha, List.getElem?_take, if_pos hjl, List.getElem?_drop] at hj
 rw [show 0 + i * 2 + j = i * 2 + j by omega]
 exact hj
theorem atCells_one (l : List Av) : ∀ u ∈ Its.atCells l, u.oneCell' = true := by
 intro u hu
 unfold Its.atCells at hu
 rw [List.mem_flatMap] at hu
 obtain ⟨a, _, hu⟩ := hu
 simp at hu
 rcases hu with rfl | rfl <;> rfl
theorem atCells_drop (l : List Av) (i : Nat) : Its.atCells (l.drop i) = (Its.atCells l).drop (i * 2) := by
 induction l generalizing i with
 | nil => simp [Its.atCells]
 | cons a l ih =>
  cases i with
  | zero => simp
  | succ i =>
   rw [List.drop_succ_cons, ih]
   unfold Its.atCells
   rw [List.flatMap_cons]
   simp only [List.cons_append, List.nil_append]
   rw [show (i + 1) * 2 = i * 2 + 1 + 1 by omega, List.drop_succ_cons, List.drop_succ_cons]
theorem atCells_take (l : List Av) (i : Nat) : Its.atCells (l.take i) = (Its.atCells l).take (i * 2) := by
 induction l generalizing i with
 | nil => simp [Its.atCells]
 | cons a l ih =>
  cases i with
  | zero => simp [Its.atCells]
  | succ i =>
   rw [List.take_succ_cons]
   have := ih i
   unfold Its.atCells at this ⊢
   rw [List.flatMap_cons, List.flatMap_cons, this]
   simp only [List.cons_append, List.nil_append]
   rw [show (i + 1) * 2 = i * 2 + 1 + 1 by omega, List.take_succ_cons, List.take_succ_cons]
theorem atCells_erase (l : List Av) (i : Nat) : Its.atCells (l.eraseIdx i) = (Its.atCells l).take (i * 2) ++ (Its.atCells l).drop ((i + 1) * 2) := by
 rw [List.eraseIdx_eq_take_drop_succ, ← atCells_take, ← atCells_drop]
 unfold Its.atCells
 rw [List.flatMap_append]
theorem below_setCells {B b : Nat} (hb : B ≤ b) : ∀ (vs : List Value) (o : Nat) (w : World), Below B w (w.setCells b o vs)
 | [], _, _ => Below.refl _ _
 | v :: r, o, w => ((Below.refl _ _).setCell hb _).trans (below_setCells hb r _ _)
theorem isSome_cells (b : Nat) (vs : List Value) (o : Nat) (w : World) (h : ∀ j, j < vs.length → (w.cell? ⟨b, o + j, none⟩).isSome = true) (k : Nat) (hk : (w.cell? ⟨b, k, none⟩).isSome = true) : ((w.setCells b o vs).cell? ⟨b, k, none⟩).isSome = true := by
 by_cases hin : o ≤ k ∧ k < o + vs.length
 ·have := World.cell?_setCells_in b vs o w h (k - o) (by omega)
  rw [show o + (k - o) = k by omega] at this
  rw [this]; rfl
 ·rw [World.cell?_setCells_out b vs o w ⟨b, k, none⟩ (fun _ _ => by show k < o ∨ o + vs.length ≤ k; omega)]
  exact hk
theorem clear_two (w : World) (ty : TypeId) (b o c : Nat) (hc : ∀ j, j < 2 → (w.cell? ⟨b, o + j, none⟩).isSome = true) (hf : ∀ j, j < 2 → w.frozen? ⟨b, o + j, none⟩ = false) :
  (Builtin.clear_ #[48] ty #[.slice (some ⟨b, o, none⟩) 1 c]).run Tryz.prog w = .ok (.tuple #[]) (w.setCells b o [.string ⟨#[]⟩, .string ⟨#[]⟩]) := by
 have hst := run_storeCells_cells (P := Tryz.prog) b o [.string ⟨#[]⟩, .string ⟨#[]⟩] 0 w (by simpa using hc) (by simpa using hf) (by simp [Value.oneCell'])
 simp only [Nat.add_zero] at hst
 have hz : (Builtin.zeroCells (Value.agg #[.string ⟨#[]⟩, .string ⟨#[]⟩]).cells 1).toList = [.string ⟨#[]⟩, .string ⟨#[]⟩] := by
  unfold Builtin.zeroCells
  simp [Value.cells, List.range_succ]
 simp [Builtin.clear_, run_underlying Tryz.underlying48, Tryz.zeroValue112, hz, hst]
set_option maxHeartbeats 4000000 in
set_option maxRecDepth 100000 in
theorem deleteA_calls (w : World) (B : Nat) (v : Value) (l : List Av) (i : Nat) (h : w.ownsRow B 112 2 v l.length (Its.atCells l)) (hi : i < l.length) (hl : l.length ≤ 1000) (hsm : ∀ a ∈ l, a.name.size ≤ maxLen ∧ a.value.size ≤ maxLen) :
  Calls Tryz.prog 183 #[v, .int .i64 i, .int .i64 ((i : Int) + 1)] w fun e w' => ∃ v', e = .returned v' ∧ RdS attrS 2 (fun b => B ≤ b) w' v' (l.eraseIdx i) ∧ Below B w w' := by
 obtain ⟨m, hm⟩ : ∃ m, l.length = m + 1 := ⟨l.length - 1, by omega⟩
 rw [hm] at h hi hl
 have hlt := h.lt
 have hcells := fun (g : Nat) (e : v.ownBlock = some g) => h.cells (g := g) e
 have hal := Its.atCells_length l
 rw [hm] at hal
 have hone := atCells_one l
 have her := atCells_erase l i
 rcases h.2 with ⟨_, hn⟩ | ⟨g, cap, cur, rfl, hgb, hgh, hgc, hgm, hcs, _⟩
 ·omega
 have hg := (hlt g rfl).2
 have hcg : ∀ j u, (Its.atCells l)[j]? = some u → w.cell? ⟨g, j, none⟩ = some u := fun j u hj => by
  have := hcells g rfl j u hj
  rwa [Addr.add_lit, Nat.zero_add] at this
 have hfz := free_of hgh
 have hsp : ∀ j, j < cap * 2 → (w.cell? ⟨g, j, none⟩).isSome = true := fun j hj => by
  rw [cell_of_row _ _ _ _ _ _ hgh, Array.getElem?_eq_getElem (by omega)]
  rfl
 obtain ⟨i0, hi0, hz0, hz1, hz2⟩ := info_parts info_attr
 obtain ⟨news, hnews⟩ : ∃ news, news = (Its.atCells l).drop ((i + 1) * 2) := ⟨_, rfl⟩
 have hnl : news.length = (m - i) * 2 := by rw [hnews, List.length_drop, hal]; omega
 obtain ⟨A, hA, hsrc⟩ : ∃ A : Addr, (if cap = i + 1 then (some ⟨g, 0, none⟩ : Option Addr) else some ⟨g, (i + 1) * 2, none⟩) = some A ∧ Hid (∀ t u, news[t]? = some u → w.drew.cell? (A.add t) = some u) := by
  by_cases hc : cap = i + 1
  ·refine ⟨⟨g, 0, none⟩, by simp [hc], fun t u hu => ?_⟩
   have h0 : news.length = 0 := by rw [hnl]; omega
   rw [List.length_eq_zero_iff.1 h0] at hu
   simp at hu
  ·refine ⟨⟨g, (i + 1) * 2, none⟩, by simp [hc], fun t u hu => ?_⟩
   rw [hnews, List.getElem?_drop] at hu
   rw [Addr.add_lit]
   exact hcg _ _ hu
 have s1 : Hid (news.length = (m - i) * 2) := hnl
 have s2 : Hid (∀ u ∈ news, u.oneCell' = true) := fun u hu => hone u (List.mem_of_mem_drop (hnews ▸ hu))
 have s3 : Hid (∀ t, t < news.length → (w.drew.cell? ⟨g, 0 + i * 2 + t, none⟩).isSome = true ∧ w.drew.frozen? ⟨g, 0 + i * 2 + t, none⟩ = false) := fun t ht => ⟨hsp _ (by rw [hnl] at ht; omega), hfz _⟩
 obtain ⟨W1, hW1⟩ : ∃ W1, W1 = w.drew.setCells g (0 + i * 2) news := ⟨_, rfl⟩
 have hsp1 : ∀ j, j < cap * 2 → (W1.cell? ⟨g, j, none⟩).isSome = true := fun j hj => by
  rw [hW1]
  exact isSome_cells g news (0 + i * 2) w.drew (fun k hk => hsp _ (by rw [hnl] at hk; omega)) _ (hsp j hj)
 have hcl : ∀ ty c, (Builtin.clear_ #[48] ty #[.slice (some ⟨g, m * 2, none⟩) 1 c]).run Tryz.prog W1 = .ok (.tuple #[]) (W1.setCells g (m * 2) [.string ⟨#[]⟩, .string ⟨#[]⟩]) := fun ty c =>
  clear_two W1 ty g _ c (fun j hj => hsp1 _ (by omega)) (fun j hj => by rw [hW1, World.frozen?_setCells]; exact hfz _)
 have HW := Lib.hid hW1; have Hnews := Lib.hid hnews; have HA := Lib.hid hA
 have hic : i ≤ cap := by omega
 have hjc : (i : Int) + 1 ≤ (cap : Int) := by omega
 have hjl : (i : Int) + 1 ≤ (m : Int) + 1 := by omega
 have mixed : Tryz.prog.follows .mixedOrders = true := by kernel_rfl
 have hb1 : (0 : Int) ≤ (i : Int) + 1 := by omega
 have htn : ((i : Int) + 1).toNat = i + 1 := by omega
 clear h hlt hcells hal hone hW1 hsp1 hnews hnl hA
 have Hm := Lib.hid hm
 have hmi : i + (m - i) = m := by omega
 have hcm : ¬ (cap = m) := by omega
 have hmc : (m : Int) + 1 ≤ (cap : Int) := by omega
 clear hm
 simp only [maxLen] at hgm
 go_enter Tryz.func183, Tryz.ntmps183
 go_wp2_with fail
 go_region_law_o (refine step_append_room rfl (.tmp 22) (.tmp 25) 48 rfl 112 i0 2 Tryz.underlying48 hi0 hz1 g 0 i cap (by simp [Act.eval, Act.put]) A (m - i) (cap - (i + 1)) news (by simp [Act.eval, Act.put]; exact HA.out) s1.out hsrc.out s2.out (by omega) s3.out ?_; rw [← HW.out])
 go_wp2
 all_goals
  go_ret
  have hB1 : Below B w W1 := by rw [HW.out]; exact ((Below.refl B w).drew).trans (below_setCells hgb _ _ _)
  have hB2 : Below B w (W1.setCells g (m * 2) [.string ⟨#[]⟩, .string ⟨#[]⟩]) := hB1.trans (below_setCells hgb _ _ _)
  have hel : (l.eraseIdx i).length = m := by rw [List.length_eraseIdx, Hm.out]; split <;> omega
  have hal : (Its.atCells l).length = (m + 1) * 2 := by rw [Its.atCells_length, Hm.out]
  refine ⟨_, rfl, RdS_attrs _ hel (by omega) (by simp only [maxLen]; omega) hgb (Nat.lt_of_lt_of_le hg hB2.size) (fun t u hu => ?_) (fun a ha => hsm a (List.mem_of_mem_eraseIdx ha)), hB2⟩
  have htl : t < m * 2 := by
   have := (List.getElem?_eq_some_iff.1 hu).1
   rwa [Its.atCells_length, hel] at this
  rw [her] at hu
  rw [World.cell?_setCells_out _ _ _ _ _ (fun _ _ => Or.inl (by show t < m * 2; omega)), HW.out]
  have htk : ((Its.atCells l).take (i * 2)).length = i * 2 := by rw [List.length_take, hal]; omega
  by_cases hti : t < i * 2
  ·rw [World.cell?_setCells_out _ _ _ _ _ (fun _ _ => Or.inl (by show t < 0 + i * 2; omega))]
   rw [List.getElem?_append_left (by rw [htk]; exact hti), List.getElem?_take, if_pos hti] at hu
   exact hcg t u hu
  ·rw [List.getElem?_append_right (by rw [htk]; omega), htk, ← Hnews.out] at hu
   have hlt := (List.getElem?_eq_some_iff.1 hu).1
   have := World.cell?_setCells_in g news (0 + i * 2) w.drew (fun k hk => hsp _ (by rw [s1.out] at hk; omega)) (t - i * 2) hlt
   rw [show 0 + i * 2 + (t - i * 2) = t by omega] at this
   rw [this, ← hu, List.getElem?_eq_getElem hlt]
end Go.Proofs.YtmbhkkophkccbaaGreat.Work
end
section
namespace Go.Proofs.YtmbhkkophkccbaaGreat.Work
open Go Go.RowKit Go.Proofs.YtmbhkkophkccbaaGreat.Seq WS FS Mem Rd Shapes Word FFam OwnF
set_option linter.unusedVariables false
set_option linter.unusedSimpArgs false

theorem attr_cells {B : Nat} {w : World} {a : Addr} {c : Nat} {l : List Av} (h : RdL attrE 2 B w (.slice (some a) l.length c) l) : ∀ j u, (Its.atCells l)[j]? = some u → w.cell? (a.add j) = some u := by
 intro j u hj
 have hlt := (List.getElem?_eq_some_iff.1 hj).1
 rw [Its.atCells_length] at hlt
 have hi : j / 2 < l.length := by omega
 obtain ⟨b, o, e, _, g0, g1, _, _⟩ := FAttr.attr_at h hi
 injection e with e
 subst e
 rw [Addr.add_lit]
 have ha := Its.atCells_at hi
 have hj2 : (((Its.atCells l).drop (j / 2 * 2)).take 2)[j % 2]? = some u := by
  rw [List.getElem?_take, if_pos (Nat.mod_lt _ (by decide)), List.getElem?_drop, show j / 2 * 2 + j % 2 = j by omega, hj]
 rw [ha] at hj2
 rcases Nat.mod_two_eq_zero_or_one j with h2 | h2
 ·rw [h2] at hj2
  simp at hj2
  rw [← hj2, show o + j = o + j / 2 * 2 by omega]
  exact g0
 ·rw [h2] at hj2
  simp at hj2
  rw [← hj2, show o + j = o + j / 2 * 2 + 1 by omega]
  exact g1
set_option maxRecDepth 100000 in
set_option maxHeartbeats 2000000 in
theorem cloneA_calls (w : World) (v : Value) (l : List Av) (h : RdL attrE 2 w.heap.size w v l) (hl : l.length ≤ 1000) :
  Calls Tryz.prog 184 #[v] w fun e w' => ∃ v', e = .returned v' ∧ w'.ownsRow w.heap.size 112 2 v' l.length (Its.atCells l) ∧ Below w.heap.size w w' := by
 obtain ⟨A, c, rfl, hc, hm, hr⟩ := h.form
 cases A with
 | none =>
  have hl0 : l = [] := by
   cases l with
   | nil => rfl
   | cons y r => obtain ⟨b, o, e, _⟩ := FAttr.attr_at h (i := 0) (by simp); cases e
  subst hl0
  refine (AnyE.slices_Clone_nil Tryz.laysClA _ _ w).mono ?_
  rintro e w' ⟨rfl, rfl⟩
  exact ⟨_, rfl, World.ownsRow_nil _ _ _ _, Below.refl _ _⟩
 | some a =>
  obtain ⟨i0, hi, hz0, hz1, hz2⟩ := info_parts info_attr
  have hcells := attr_cells h
  have hlen := Its.atCells_length l
  have hone := atCells_one l
  have Hc := Lib.hid hcells; have Ho := Lib.hid hone; have HL := Lib.hid hlen
  have q22 : ∀ (w : World) (a : Option Addr) (n c n' c' : Nat), (binOp .eql 48 (.slice a n c) (.slice none n' c')).run Tryz.prog w = .ok (.bool a.isNone) w := fun w a n c n' c' => Lib.run_eql_slice_nil w _ _ a n c n' c' Tryz.underlying48
  clear h hr hcells hlen hone
  go_enter Tryz.func184, Tryz.ntmps184
  go_wp2_with (at_builtin; go_loud (refine wpList_append_own _ rfl _ _ 48 rfl w.heap.size 112 i0 _ 2 32 Tryz.underlying48 hi hz0 hz1 hz2 rfl (by decide) _ _ _ rfl (World.ownsRow_made w #[] 0 (Nat.le_refl _) (Nat.zero_le _) rfl) a l.length c (Its.atCells l) rfl HL.out (fun j u hj => cell_alloc (Hc.out j u hj) _) Ho.out (by simp only [maxLen]; omega) (by omega) (by simp) ?_; intro v' w1 hown hgrow hnil; have Hown := Lib.hid hown; have Hgrow := Lib.hid hgrow; clear hown hgrow hnil))
  go_ret
  refine ⟨v', rfl, by simpa using Hown.out, ?_⟩
  exact ((Below.refl _ w).alloc (Nat.le_refl _) _).grown Hgrow.out (by simp) (by intro k hk; simp only [Value.ownBlock] at hk; injection hk with hk; first | omega | (have hk2 : w.heap.size = k := hk; omega))
theorem put_at {X : Nat → Prop} {T : TypeId} {base : Nat} {w w' : World} {f : Fo} {g c : Nat} (h : OwnX X T base w (.slice (some ⟨g, 0, none⟩) f.length c) f) {i j : Nat} (hi : i < f.length) (hj : j < 6) {u : Value} {n : Nd} (hgl : g < w.heap.size)
  (hsame : ∀ b, b < w.heap.size → b ≠ g → X b → w'.heap[b]? = w.heap[b]?) (hg : w'.heap[g]? = (w.setCell ⟨g, i * 6 + j, none⟩ u).heap[g]?) (hs : w.heap.size ≤ w'.heap.size)
  (hn : ∀ cs, nodeS (fun b => b ≠ g ∧ X b) w cs f[i] → nodeS (fun b => b ≠ g ∧ X b) w' (cs.set j u) n) : OwnX X T base w' (.slice (some ⟨g, 0, none⟩) f.length c) (f.set i n) := by
 obtain ⟨xs, h1, h2⟩ := h
 have hS : (fun b => (Value.slice (some ⟨g, 0, none⟩) f.length c).ownBlock ≠ some b ∧ X b) = (fun b => b ≠ g ∧ X b) := by
  funext b
  simp only [Value.ownBlock, eq_iff_iff]
  constructor
  ·intro h; exact ⟨fun e => h.1 (by rw [e]), h.2⟩
  ·intro h; exact ⟨fun e => by injection e with e; exact h.1 e.symm, h.2⟩
 refine ⟨xs.set (i * 6 + j) u, ?_, fun k hk' => ?_⟩
 ·rw [List.length_set]
  exact own_keep (h1.stored (i * 6 + j) u).1 (fun b hb => by
   have e : g = b := by simp only [Value.ownBlock] at hb; injection hb
   subst e
   exact hg)
 ·rw [List.length_set] at hk'
  rw [hS] at h2 ⊢
  by_cases e : i = k
  ·subst e
   rw [List.getElem_set_self, take_set_eq hj]
   exact hn _ (h2 i hk')
  ·rw [List.getElem_set_ne e, take_set_ne (fun h => e h.symm) hj]
   exact (h2 k hk').keep (fun b hb hl => hsame b hl hb.1 hb.2) hs (fun _ x _ => x)
theorem setCell_block {w w' : World} {g i : Nat} {v : Value} (h : w'.heap[g]? = w.heap[g]?) : (w'.setCell ⟨g, i, none⟩ v).heap[g]? = (w.setCell ⟨g, i, none⟩ v).heap[g]? := by
 rw [Sort.setCell_eq, Sort.setCell_eq]
 simp only [Sort.mapBlock]
 rw [Array.getElem?_modify, Array.getElem?_modify, h]
section
variable [Avoid] {base wk g c : Nat} {o : Opn} {f : Fo}
theorem attrs_put {w w' : World} (h : Wk base wk g c o f w) {k : Nat} (hkl : k < f.length) (v' : Value) (l : List Av) (hsame : ∀ b, b < w.heap.size → b ≠ g → w'.heap[b]? = w.heap[b]?) (hg : w'.heap[g]? = (w.setCell ⟨g, k * 6 + 3, none⟩ v').heap[g]?) (hs : w.heap.size ≤ w'.heap.size)
  (hr : RdS attrS 2 (fun b => w.heap.size ≤ b) w' v' l) : Wk base wk g c o (f.set k { at_ f (k : Int) with attrs := l }) w' := by
 have hgl := (h.base_le (by omega)).2
 have hgb := (h.base_le (by omega)).1
 have hlo := h.lo
 have hwl := lt_heap h.box
 have e : at_ f (k : Int) = f[k] := at_nat hkl
 rw [e]
 refine ⟨?_, ?_, h.ne, ?_, h.lo⟩
 ·rw [List.length_set]
  exact (hsame wk hwl (fun e => h.ne e.symm)).trans h.box
 ·rw [List.length_set]
  exact put_at h.ownx hkl (by decide) hgl (fun b hb hne _ => hsame b hb hne) hg hs (fun cs hcs => by
   obtain ⟨va, vk, rfl, r1, r2, r3, r4, r5, r6⟩ := hcs
   exact ⟨v', vk, rfl, hr.keep (fun _ _ _ => rfl) (Nat.le_refl _) (fun b hb _ => by omega), r2.keep (fun b hb hl => hsame b hl hb.1) hs (fun _ x _ => x), r3, r4, r5, r6⟩)
 ·rw [List.length_set]
  exact h.big
end
end Go.Proofs.YtmbhkkophkccbaaGreat.Work
end
section
namespace Go.Proofs.YtmbhkkophkccbaaGreat.Work
open Go Go.RowKit Go.Proofs.YtmbhkkophkccbaaGreat.Seq WS FS Mem Rd Shapes Word FFam OwnF
set_option linter.unusedVariables false
set_option linter.unusedSimpArgs false

theorem atCells_set {l : List Av} {j : Nat} (hj : j < l.length) (t : ByteArray) : Its.atCells (l.set j ⟨l[j].name, t⟩) = (Its.atCells l).set (j * 2 + 1) (.string t) := by
 induction l generalizing j with
 | nil => cases hj
 | cons a l ih =>
  cases j with
  | zero => rfl
  | succ j =>
   have := ih (j := j) (by simpa using hj)
   unfold Its.atCells at this ⊢
   rw [List.set_cons_succ, List.flatMap_cons, List.flatMap_cons]
   simp only [List.getElem_cons_succ]
   rw [this]
   simp only [List.cons_append, List.nil_append]
   rw [show (j + 1) * 2 + 1 = (j * 2 + 1) + 1 + 1 by omega, List.set_cons_succ, List.set_cons_succ]
theorem setCell_twice {w w' : World} {g i : Nat} {u v : Value} (h : w'.heap[g]? = (w.setCell ⟨g, i, none⟩ u).heap[g]?) : (w'.setCell ⟨g, i, none⟩ v).heap[g]? = (w.setCell ⟨g, i, none⟩ v).heap[g]? := by
 rw [setCell_block h, Sort.setCell_eq, Sort.setCell_eq, Sort.setCell_eq, Sort.mapBlock_mapBlock]
 simp only [Sort.mapBlock]
 rw [Array.getElem?_modify, Array.getElem?_modify]
 congr 2
 funext c
 simp
section
variable [Avoid] {base wk g c : Nat} {o : Opn} {f : Fo}
end
section
variable {base wk g c : Nat} {o : Opn} {f : Fo}
theorem frozen_same {w w' : World} {g : Nat} (h : w'.heap[g]? = w.heap[g]?) (j : Nat) : w'.frozen? ⟨g, j, none⟩ = w.frozen? ⟨g, j, none⟩ := by simp [World.frozen?, h]
end
section
variable [Avoid] {base wk g c : Nat} {o : Opn} {f : Fo}
end
section
variable {base wk g c : Nat} {o : Opn} {f : Fo}
theorem set_self {f : Fo} {k : Nat} (hk : k < f.length) : f.set k { at_ f (k : Int) with attrs := (at_ f (k : Int)).attrs } = f := by
 rw [at_nat hk]
 exact List.set_getElem_self hk
end
section
variable [Avoid] {base wk g c : Nat} {o : Opn} {f : Fo}
set_option maxRecDepth 100000 in
set_option maxHeartbeats 4000000 in
theorem set_do (hm : mayB f = true) (hi : isNode f o.id = true) (hla : (at_ f o.id).attrs.length ≤ 8) (hnm : o.name.size ≤ maxLen) (htx : o.text.size ≤ maxLen) (hbw : base ≤ wk) : Do 180 base wk g c o f (f.set o.id.toNat { at_ f o.id with attrs := setA (at_ f o.id).attrs o.name o.text }) := by
 intro w h
 obtain ⟨k, hk, hkl⟩ := node_nat hi
 rw [hk] at hla ⊢
 rw [Int.toNat_natCast]
 have hi' := hi
 rw [hk] at hi'
 obtain ⟨va, _, _, _, _, k3, _, _, ra, _⟩ := h.node hi'
 rw [Int.toNat_natCast] at k3
 have hbs := h.base_size (by omega)
 have hn := node_at2 h rfl hk hkl
 have hcl := fun n => cloneA_calls (w.drewN n) va _ ((ra.keep (w' := w.drewN n) (fun _ _ _ => rfl) (Nat.le_refl _) (fun b x _ => x)).rd) (by omega)
 have hfz := (h.free (by omega)).1 (k * 6 + 3)
 obtain ⟨Aa, ca, rfl, hca, hcm⟩ := ra.form
 have hgl := (h.base_le (by omega)).2
 have hwl := lt_heap h.box
 have hgb := (h.base_le (by omega)).1
 have Hn := Lib.hid hn; have Hcl := Lib.hid hcl; have H := Lib.hid h; have Hk := Lib.hid hk; have Hm := Lib.hid hm; have Hi := Lib.hid hi
 have Hra := Lib.hid ra
 clear hn hcl h hk hm hi hi' ra
 go_enter Tryz.func180, Tryz.ntmps180
 go_upto_region 2 with (first
  | (go_at_call 173; ((with_reducible refine (Hn.out).mono ?_); rintro e w5 ⟨rfl, n5, rfl⟩))
  | (go_at_call 184; ((with_reducible refine (Hcl.out n5).mono ?_); rintro e w6 ⟨v6, rfl, ho6, hb6⟩; obtain ⟨A6, n6, c6, rfl⟩ := Build.own_form ho6; have hb6' : Below w.heap.size w w6 := (drewN_below (Below.refl _ _) n5).trans hb6; have k6 := cell_grow hb6' k3; have f6 := ((H.out.below hb6').free (by omega)).1 (k * 6 + 3); have Ho6 := Lib.hid ho6; have Hb6 := Lib.hid hb6'; clear ho6 hb6 hb6')))
 obtain ⟨w7, hw7⟩ : ∃ w7, w6.setCell ⟨g, k * 6 + 3, none⟩ (.slice A6 n6 c6) = w7 := ⟨_, rfl⟩
 have hsm : ∀ a ∈ (at_ f (k : Int)).attrs, a.name.size ≤ maxLen ∧ a.value.size ≤ maxLen := Its.attrs_small (Hra.out.rd)
 have ho7 : w7.ownsRow w.heap.size 112 2 (.slice A6 n6 c6) (at_ f (k : Int)).attrs.length (Its.atCells (at_ f (k : Int)).attrs) := by
  rw [← hw7]
  exact own_keep Ho6.out (fun b hb => Below.heap_setCell _ _ _ _ (fun e => by have h1 : w.heap.size ≤ b := (Ho6.out.lt b hb).1; have e2 : b = g := e; omega))
 have hr7 : RdS attrS 2 (fun b => w.heap.size ≤ b) w7 (.slice A6 n6 c6) (at_ f (k : Int)).attrs := Its.rows_attrs ho7 (fun b hb => (ho7.lt b hb).1) hsm
 have hS7 : ∀ b, b < w.heap.size → b ≠ g → w7.heap[b]? = w.heap[b]? := fun b hb hne => by rw [← hw7]; exact (Below.heap_setCell _ _ _ _ hne).trans (Hb6.out.block b hb)
 have hG7 : w7.heap[g]? = (w.setCell ⟨g, k * 6 + 3, none⟩ (.slice A6 n6 c6)).heap[g]? := by rw [← hw7]; exact setCell_block (Hb6.out.block g hgl)
 have hs7 : w.heap.size ≤ w7.heap.size := by rw [← hw7]; have := Hb6.out.size; simp [World.setCell]; exact this
 have hW7 : Wk base wk g c o f w7 := by
  have := attrs_put H.out hkl (.slice A6 n6 c6) (at_ f (k : Int)).attrs (w' := w7) hS7 hG7 hs7 hr7
  rwa [set_self hkl] at this
 have k7 : w7.cell? ⟨g, k * 6 + 3, none⟩ = some (.slice A6 n6 c6) := by rw [← hw7]; exact World.cell?_setCell_same w6 _ _ k6
 have hB7 : Below base w w7 := by rw [← hw7]; exact (Hb6.out.mono hbs).setCell hgb _
 have ha7 := attribute_calls w7 hW7 Hi.out
 rw [hw7]
 rw [Hk.out] at ha7
 have HW7 := Lib.hid hW7; have HB7 := Lib.hid hB7; have Ho7 := Lib.hid ho7; have HS7 := Lib.hid hS7; have HG7 := Lib.hid hG7
 clear hW7 hB7 ho7 hr7 hw7 k6 f6 Hn Hcl hS7 hG7
 -- what is left to show, behind the last store
 have fin : ∀ (w8 w' : World) (v' : Value) (l' : List Av), Below w7.heap.size w7 w8 → (∀ b, b < w.heap.size → b ≠ g → w'.heap[b]? = w8.heap[b]?) → w'.heap[g]? = (w.setCell ⟨g, k * 6 + 3, none⟩ v').heap[g]? → w8.heap.size ≤ w'.heap.size → RdS attrS 2 (fun b => w.heap.size ≤ b) w' v' l' →
   Below base w8 w' → setA (at_ f (k : Int)).attrs o.name o.text = l' → DoPost base wk o (f.set k { at_ f (k : Int) with attrs := setA (at_ f (k : Int)).attrs o.name o.text }) w (.returned (.tuple #[])) w' := by
  intro w8 w' v' l' hb8 h1 h2 h3 h4 h5 rfl
  refine ⟨rfl, g, c, attrs_put H.out hkl v' _ (fun b hb hne => ((h1 b hb hne).trans (hb8.block b (by omega))).trans (HS7.out b hb hne)) h2 (by have := hb8.size; omega) h4, (HB7.out.trans (hb8.mono (by omega))).trans h5⟩
 have Fin := Lib.hid fin
 clear fin
 cases hfa : findA (at_ f (k : Int)).attrs o.name with
 | some j =>
  obtain ⟨hj, hjn⟩ := findA_some hfa
  have hix : idxP (at_ f (k : Int)).attrs (nameP o) = (j : Int) := by unfold idxP; rw [show (at_ f (k : Int)).attrs.findIdx? (nameP o) = some j from hfa]
  rcases Ho7.out.2 with ⟨_, hn0⟩ | ⟨r, cap, cur, e, hrb, hrh, hrc, hrm, hcs, htk⟩
  ·omega
  injection e with e1 e2 e3
  subst e1 e2 e3
  rw [hix] at ha7
  have hset : setA (at_ f (k : Int)).attrs o.name o.text = (at_ f (k : Int)).attrs.set j ⟨(at_ f (k : Int)).attrs[j].name, o.text⟩ := by unfold setA; rw [hfa, hjn]
  have hcr : ∀ m u, (Its.atCells (at_ f (k : Int)).attrs)[m]? = some u → w7.cell? ⟨r, m, none⟩ = some u := fun m u hu => by
   have := Ho7.out.cells (g := r) rfl m u hu
   rwa [Addr.add_lit, Nat.zero_add] at this
  have hr8 : ∀ w8, Below w7.heap.size w7 w8 → RdS attrS 2 (fun b => w.heap.size ≤ b) (w8.setCell ⟨r, j * 2 + 1, none⟩ (.string o.text)) (.slice (some ⟨r, 0, none⟩) (at_ f (k : Int)).attrs.length c6) ((at_ f (k : Int)).attrs.set j ⟨(at_ f (k : Int)).attrs[j].name, o.text⟩) := fun w8 hb8 => by
   have hrl : r < w7.heap.size := lt_heap hrh
   refine RdS_attrs _ (by rw [List.length_set]) (by rw [List.length_set]; exact hrc) hrm hrb (by have := hb8.size; simp [World.setCell]; omega) (fun m u hu => ?_) (fun a ha => ?_)
   ·rw [atCells_set hj] at hu
    by_cases em : m = j * 2 + 1
    ·subst em
     rw [List.getElem?_set_self (by rw [Its.atCells_length]; omega)] at hu
     injection hu with hu
     subst hu
     have hold : (Its.atCells (at_ f (k : Int)).attrs)[j * 2 + 1]? = some ((Its.atCells (at_ f (k : Int)).attrs)[j * 2 + 1]'(by rw [Its.atCells_length]; omega)) := List.getElem?_eq_getElem _
     exact World.cell?_setCell_same w8 _ _ (cell_grow hb8 (hcr _ _ hold))
    ·rw [List.getElem?_set_ne (fun e => em e.symm)] at hu
     rw [World.cell?_setCell_other _ _ _ _ (fun e => em (congrArg Addr.off e).symm)]
     exact cell_grow hb8 (hcr m u hu)
   ·rcases List.mem_or_eq_of_mem_set ha with h | rfl
    ·exact hsm a h
    ·exact ⟨(hsm _ (List.getElem_mem hj)).1, htx⟩
  have hv1 : ∃ u, w7.cell? ⟨r, j * 2 + 1, none⟩ = some (.string u) := by
   have ha := Its.atCells_at hj
   refine ⟨(at_ f (k : Int)).attrs[j].value, hcr _ _ ?_⟩
   have : (((Its.atCells (at_ f (k : Int)).attrs).drop (j * 2)).take 2)[1]? = some (.string (at_ f (k : Int)).attrs[j].value) := by rw [ha]; rfl
   rwa [List.getElem?_take, if_pos (by decide), List.getElem?_drop] at this
  obtain ⟨uv, hv1⟩ := hv1
  have hvf := free_of hrh (j * 2 + 1)
  have hrg : r ≠ g := by omega
  have hrw : r ≠ wk := by omega
  have Ha7 := Lib.hid ha7; have Hset := Lib.hid hset; have Hr8 := Lib.hid hr8; have Hv1 := Lib.hid hv1; have Hvf := Lib.hid hvf; have Hrh := Lib.hid hrh
  have hjl : (j : Int) < ((at_ f (k : Int)).attrs.length : Int) := by omega
  have hj0 : decide ((0 : Int) ≤ (j : Int)) = true := by simp
  clear ha7 hset hcr hr8 hv1 hvf hrh hcs htk hix hfa hjn hsm
  go_upto_region 4 with (go_at_call 179; ((with_reducible refine (Ha7.out).mono ?_); rintro e w8 ⟨rfl, hb8⟩; have k8 := cell_grow hb8 k7; have t6 := cell_grow hb8 HW7.out.cells.2.2.2.2.2.2; have v8 := cell_grow hb8 Hv1.out; have v8f := free_of ((hb8.block r (lt_heap Hrh.out)).trans Hrh.out) (j * 2 + 1); have Hb8 := Lib.hid hb8; clear hb8))
  have hs8 := Hb8.out.size
  go_region_held3 (fun w' => w'.cell? ⟨g, k * 6 + 3, none⟩ = some (.slice (some ⟨r, 0, none⟩) (at_ f (k : Int)).attrs.length c6) ∧ w'.cell? ⟨wk, 6, none⟩ = some (.string o.text))
   (first | exact ⟨k8, t6⟩ | exact ⟨(OwnF.cell_same (Below.heap_setCell _ _ _ _ (fun e => hrg e.symm)) _).trans k8, (OwnF.cell_same (Below.heap_setCell _ _ _ _ (fun e => hrw e.symm)) _).trans t6⟩ | go_keep)
   (fail)
  go_wp2_with fail
  first | go_end0 | refine bodyPost_ret (results_none rfl _ _ _) rfl ?_
  refine Fin.out w8 _ (.slice (some ⟨r, 0, none⟩) (at_ f (k : Int)).attrs.length c6) _ Hb8.out (fun b hb hne => Below.heap_setCell _ _ _ _ (fun e => by have e2 : b = r := e; omega)) ?_ (by simp [World.setCell]) ((Hr8.out w8 Hb8.out).keep (fun _ _ _ => rfl) (Nat.le_refl _) (fun b x _ => x)) (((Below.refl base w8).setCell (by show base ≤ r; omega) _).drew) Hset.out
  exact (Below.heap_setCell _ _ _ _ (fun e => hrg (by exact e.symm))).trans ((Hb8.out.block g (by omega)).trans HG7.out)
 | none =>
  have hix : idxP (at_ f (k : Int)).attrs (nameP o) = -1 := by unfold idxP; rw [show (at_ f (k : Int)).attrs.findIdx? (nameP o) = none from hfa]
  have hset : setA (at_ f (k : Int)).attrs o.name o.text = (at_ f (k : Int)).attrs ++ [⟨o.name, o.text⟩] := by unfold setA; rw [hfa]
  rw [hix] at ha7
  have Ha7 := Lib.hid ha7; have Hset := Lib.hid hset; have Hsm := Lib.hid hsm
  clear ha7 hset hix hfa hsm
  go_upto_region 5 with (go_at_call 179; ((with_reducible refine (Ha7.out).mono ?_); rintro e w8 ⟨rfl, hb8⟩; have k8 := cell_grow hb8 k7; have t5 := cell_grow hb8 HW7.out.cells.2.2.2.2.2.1; have t6 := cell_grow hb8 HW7.out.cells.2.2.2.2.2.2; have k8f := ((HW7.out.below hb8).free (by omega)).1 (k * 6 + 3); have Hb8 := Lib.hid hb8; clear hb8))
  obtain ⟨i0, hi0, hz0, hz1, hz2⟩ := info_parts info_attr
  have hs8 := Hb8.out.size
  have ho8 := own_keep Ho7.out (w' := w8) (fun b hb => Hb8.out.block b (Ho7.out.lt b hb).2)
  have hs8b : w.heap.size ≤ w8.heap.size := by omega
  have hne8 : (Value.slice A6 n6 c6).ownBlock ≠ some g := fun e => by have h1 : w.heap.size ≤ g := (Ho7.out.lt g e).1; omega
  have Ho8 := Lib.hid ho8
  clear ho8
  have hgl8 : g < w8.heap.size := by omega
  go_region_law (refine step_append_lies _ rfl (.tmp 34) (.tmp 46) 48 rfl w.heap.size 112 i0 _ 2 32 Tryz.underlying48 hi0 hz0 hz1 hz2 rfl (by decide) (.slice A6 n6 c6) (at_ f (k : Int)).attrs.length (Its.atCells (at_ f (k : Int)).attrs) (by simp [Act.eval, Act.put]) ((Ho8.out.alloc _).drew) ⟨w8.heap.size, 0, none⟩ 1 1 [.string o.name, .string o.text] (by simp [Act.eval, Act.put]) rfl (World.news_of_block (cs := #[.string o.name, .string o.text]) (t := 112) (fr := (0, 0)) (heap_alloc_new w8 _)) (by simp [Value.oneCell']) (by omega) (by simp only [maxLen]; omega) (by omega) (by simp; omega) (w8.heap.size + 1) (by simp) ?_; intro g9 cap9 w9 hown9 hgrow9 hat9 hlt9; have e9 := hgrow9.block g (by simp; omega) (fun e => hne8 e.symm); have k9 : w9.cell? ⟨g, k * 6 + 3, none⟩ = some (.slice A6 n6 c6) := (OwnF.cell_same e9 _).trans (cell_alloc k8 _); have k9f : w9.frozen? ⟨g, k * 6 + 3, none⟩ = false := (frozen_same (e9.trans (Below.heap_alloc _ _ _ hgl8)) _).trans k8f; have Hown9 := Lib.hid hown9; have Hgrow9 := Lib.hid hgrow9; have Hat9 := Lib.hid hat9; clear e9 hown9 hgrow9 hat9)
  all_goals
   refine bodyPost_ret (results_none rfl _ _ _) rfl ?_
   have hob : ∀ b, (Value.slice A6 n6 c6).ownBlock = some b → w.heap.size ≤ b := fun b hb => (Ho7.out.lt b hb).1
   have hg9 : w.heap.size ≤ g9 := (Hown9.out.lt g9 rfl).1
   have hsz9 := Hgrow9.out.size
   have hsz9' : w8.heap.size ≤ w9.heap.size := Nat.le_trans (by simp) hsz9
   have hB9 : Below base w8 w9 := (((Below.refl base w8).alloc (by omega) _).drew).grown Hgrow9.out (by simp; omega) (fun r hr => by have := hob r hr; omega)
   have hown : (w9.setCell ⟨g, k * 6 + 3, none⟩ (.slice (some ⟨g9, 0, none⟩) ((at_ f (k : Int)).attrs.length + 1) cap9)).ownsRow w.heap.size 112 2 (.slice (some ⟨g9, 0, none⟩) ((at_ f (k : Int)).attrs.length + 1) cap9) ((at_ f (k : Int)).attrs ++ [(⟨o.name, o.text⟩ : Av)]).length (Its.atCells ((at_ f (k : Int)).attrs ++ [(⟨o.name, o.text⟩ : Av)])) := by
    rw [Its.atCells_snoc, List.length_append]
    exact own_keep Hown9.out (fun b hb => Below.heap_setCell _ _ _ _ (fun e => by have h1 := (Hown9.out.lt b hb).1; have e2 : b = g := e; omega))
   refine Fin.out w8 _ (.slice (some ⟨g9, 0, none⟩) ((at_ f (k : Int)).attrs.length + 1) cap9) _ Hb8.out (fun b hb hne => (Below.heap_setCell _ _ _ _ hne).trans ((Hgrow9.out.block b (by simp; omega) (fun e => by have := hob b e.symm; omega)).trans (Below.heap_alloc _ _ _ (by omega)))) ?_ (by simp [World.setCell]; exact hsz9')
    (Its.rows_attrs hown (fun b hb => (hown.lt b hb).1) (fun a ha => by
     rcases List.mem_append.1 ha with h | h
     ·exact Hsm.out a h
     ·rw [List.mem_singleton.1 h]; exact ⟨hnm, htx⟩)) (hB9.setCell hgb _) Hset.out
   exact setCell_twice (((Hgrow9.out.block g (by simp; omega) (fun e => by have := hob g e.symm; omega)).trans (Below.heap_alloc _ _ _ hgl8)).trans ((Hb8.out.block g (by omega)).trans HG7.out))
end
end Go.Proofs.YtmbhkkophkccbaaGreat.Work
end
