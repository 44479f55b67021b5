/- forest.Print. -/
import Derived.Test.YtbbompmpecblgaaPrPut
namespace Go.Proofs.Ytbbompmpecblgaa.Pr
open Go Go.RowKit Go.Proofs.Ytbbompmpecblgaa.Seq Go.Proofs.Ytbbompmpecblgaa.WS Go.Proofs.Ytbbompmpecblgaa.FS Go.Proofs.Ytbbompmpecblgaa.Mem Go.Proofs.Ytbbompmpecblgaa.Rd Go.Proofs.Ytbbompmpecblgaa.Shapes Go.Proofs.Ytbbompmpecblgaa.Build Go.Proofs.Ytbbompmpecblgaa.Repl Go.Proofs.Ytbbompmpecblgaa.ReplB Go.Proofs.Ytbbompmpecblgaa.ReplR Go.Proofs.Ytbbompmpecblgaa.ReplC Go.Proofs.Ytbbompmpecblgaa.FFam
set_option linter.unusedVariables false
set_option linter.unusedSimpArgs false

theorem Sz.alloc_size (w : World) (o : Obj) : (w.alloc o).heap.size = w.heap.size + 1 := by simp
theorem run_store_func (P : Program) (w : World) (a : Addr) (m : Mode) (fn : Fn) (first cap : Array Value) : (store a (.func fn first cap) m).run P w = stored P w a (.func fn first cap) m := run_store P w a _ m rfl
attribute [local go_sem] run_store_func
theorem put_all (L : Lay) (ok : L.OK) (hm : mayB L.f = true) {i : Int} (hi : isNode L.f i = true) : PutOK L i :=
  down_ind (may_family hm) (may_climbs hm) (P := PutOK L) (fun i hi ih => put_step L ok hm i hi (fun k hk => ⟨(fam_kids (may_family hm) hi hk).1, ih k hk⟩)) hi
theorem ret_str0 (f : Fo) (i : Int) (h : ¬ (mayB f = true ∧ isNode f i = true)) : Ending.returned (.string ⟨#[]⟩) = .returned (.string ⟨(printF f i).toArray⟩) := by
  unfold printF
  rw [if_neg h]
theorem print_no (w : World) (v : Value) (f : Fo) (id : Int) (h : RdF w.heap.size w v f) (hkm : ∀ n ∈ f, n.kids.length ≤ 1000) (hno : ¬ (mayB f = true ∧ isNode f id = true)) :
    Calls Try.prog 35 #[v, .int .i64 id] w fun e w' => e = .returned (.string ⟨(printF f id).toArray⟩) ∧ Below w.heap.size w w' := by
  have hr := ret_str0 f id hno
  have hlen := h.len
  simp only [maxLen] at hlen
  obtain ⟨A0, c0, rfl, hl0, hc0, h'⟩ := h.form
  have hmy := FMay.May_calls (w.alloc (.cells #[.slice A0 f.length c0] 33)) _ f ((h'.keep nodeE_keeps ((Below.refl _ _).alloc (Nat.le_refl _) _) (Nat.le_refl _)).mono nodeE_keeps (by simp)) hkm
  have Hr := Lib.hid hr
  clear h h' hr
  by_cases hm : mayB f = true
  · rw [hm] at hmy
    have Hmy := Lib.hid hmy
    have hid : ¬ (0 ≤ id ∧ id < f.length) := fun hh => hno ⟨hm, (node_iff _ _).2 hh⟩
    clear hmy hno hm
    by_cases h0 : id < 0
    · clear hid
      go_enter Try.func35, Try.ntmps35
      go_wp2_with (go_at_call 32; (with_reducible refine (Hmy.out).mono ?_); rintro e w5 ⟨rfl, hb5⟩; have hcc := cell_grow hb5 (a := ⟨w.heap.size, 0, none⟩) (v := .slice A0 f.length c0) (by simp); have Hb5 := Lib.hid hb5; clear hb5)
      go_ret
      exact ⟨Hr.out, bthen ((Below.refl _ _).alloc (Nat.le_refl _) _) Hb5.out⟩
    · have h1 : (f.length : Int) ≤ id := by omega
      clear hid
      go_enter Try.func35, Try.ntmps35
      go_wp2_with (go_at_call 32; (with_reducible refine (Hmy.out).mono ?_); rintro e w5 ⟨rfl, hb5⟩; have hcc := cell_grow hb5 (a := ⟨w.heap.size, 0, none⟩) (v := .slice A0 f.length c0) (by simp); have Hb5 := Lib.hid hb5; clear hb5)
      go_ret
      exact ⟨Hr.out, bthen ((Below.refl _ _).alloc (Nat.le_refl _) _) Hb5.out⟩
  · rw [Bool.not_eq_true] at hm
    rw [hm] at hmy
    have Hmy := Lib.hid hmy
    clear hmy hno hm
    go_enter Try.func35, Try.ntmps35
    go_wp2_with (go_at_call 32; (with_reducible refine (Hmy.out).mono ?_); rintro e w5 ⟨rfl, hb5⟩; have hcc := cell_grow hb5 (a := ⟨w.heap.size, 0, none⟩) (v := .slice A0 f.length c0) (by simp); have Hb5 := Lib.hid hb5; clear hb5)
    go_ret
    exact ⟨Hr.out, bthen ((Below.refl _ _).alloc (Nat.le_refl _) _) Hb5.out⟩
theorem new_text (W : World) (b : Nat) (hb : b = W.heap.size) : Calls Try.prog 68 #[.slice (some ⟨b, 0, none⟩) 4 4] (W.alloc (.cells #[.string ⟨#[38]⟩, .string ⟨#[38, 97, 109, 112, 59]⟩, .string ⟨#[60]⟩, .string ⟨#[38, 108, 116, 59]⟩] 9))
    (NewPost (W.alloc (.cells #[.string ⟨#[38]⟩, .string ⟨#[38, 97, 109, 112, 59]⟩, .string ⟨#[60]⟩, .string ⟨#[38, 108, 116, 59]⟩] 9)) (psQ false)) :=
  NewReplacer_calls _ (psQ false) (by decide) (by decide) b (heap_new hb) 4 rfl
theorem new_value (W : World) (b : Nat) (hb : b = W.heap.size) : Calls Try.prog 68 #[.slice (some ⟨b, 0, none⟩) 6 6] (W.alloc (.cells #[.string ⟨#[38]⟩, .string ⟨#[38, 97, 109, 112, 59]⟩, .string ⟨#[60]⟩, .string ⟨#[38, 108, 116, 59]⟩, .string ⟨#[34]⟩, .string ⟨#[38, 113, 117, 111, 116, 59]⟩] 9))
    (NewPost (W.alloc (.cells #[.string ⟨#[38]⟩, .string ⟨#[38, 97, 109, 112, 59]⟩, .string ⟨#[60]⟩, .string ⟨#[38, 108, 116, 59]⟩, .string ⟨#[34]⟩, .string ⟨#[38, 113, 117, 111, 116, 59]⟩] 9)) (psQ true)) :=
  NewReplacer_calls _ (psQ true) (by decide) (by decide) b (heap_new hb) 6 rfl
abbrev cs4 : Obj := .cells #[.string ⟨#[38]⟩, .string ⟨#[38, 97, 109, 112, 59]⟩, .string ⟨#[60]⟩, .string ⟨#[38, 108, 116, 59]⟩] 9
abbrev cs6 : Obj := .cells #[.string ⟨#[38]⟩, .string ⟨#[38, 97, 109, 112, 59]⟩, .string ⟨#[60]⟩, .string ⟨#[38, 108, 116, 59]⟩, .string ⟨#[34]⟩, .string ⟨#[38, 113, 117, 111, 116, 59]⟩] 9
def layOf (w w5 w6 w8 : World) (f : Fo) (A0 : Option Addr) (c0 rt rv : Nat) : Lay := ⟨f, w.heap.size, A0, c0, w5.heap.size, w6.heap.size, w8.heap.size, w8.heap.size + 1 + 1, w8.heap.size + 1, w.heap.size, rt, rv, w8.heap.size + 1 + 1 + 1⟩
theorem print_init {w w5 w6 w8 : World} {f : Fo} {A0 : Option Addr} {c0 rt rv : Nat} {F1 F2 : Nat → Prop} (hrd : RdF w.heap.size w (.slice A0 f.length c0) f)
    (hb5 : Below (w.alloc (.cells #[.slice A0 f.length c0] 33)).heap.size (w.alloc (.cells #[.slice A0 f.length c0] 33)) w5)
    (hge1 : ((w5.alloc (.cells #[.pointer none, .slice none 0 0] 91)).alloc cs4).heap.size ≤ rt) (hrep1 : IsRep rt (psQ false) F1 w6)
    (hF1 : ∀ k, F1 k → ((w5.alloc (.cells #[.pointer none, .slice none 0 0] 91)).alloc cs4).heap.size ≤ k ∧ k < w6.heap.size ∧ k ≠ rt)
    (hb6 : Below ((w5.alloc (.cells #[.pointer none, .slice none 0 0] 91)).alloc cs4).heap.size ((w5.alloc (.cells #[.pointer none, .slice none 0 0] 91)).alloc cs4) w6)
    (hge2 : ((w6.alloc (.cells #[.pointer (some ⟨rt, 0, none⟩)] 92)).alloc cs6).heap.size ≤ rv) (hrep2 : IsRep rv (psQ true) F2 w8)
    (hF2 : ∀ k, F2 k → ((w6.alloc (.cells #[.pointer (some ⟨rt, 0, none⟩)] 92)).alloc cs6).heap.size ≤ k ∧ k < w8.heap.size ∧ k ≠ rv)
    (hb8 : Below ((w6.alloc (.cells #[.pointer (some ⟨rt, 0, none⟩)] 92)).alloc cs6).heap.size ((w6.alloc (.cells #[.pointer (some ⟨rt, 0, none⟩)] 92)).alloc cs6) w8) {W : World}
    (hW : W = ((w8.alloc (.cells #[.pointer (some ⟨rv, 0, none⟩)] 92)).alloc (.cells #[.func (.func 70) #[] #[.pointer (some ⟨w5.heap.size, 0, none⟩), .pointer (some ⟨w6.heap.size, 0, none⟩), .pointer (some ⟨w8.heap.size + 1 + 1, 0, none⟩), .pointer (some ⟨w8.heap.size, 0, none⟩)]] 94)).alloc
      (.cells #[.func (.func 69) #[] #[.pointer (some ⟨w8.heap.size + 1, 0, none⟩), .pointer (some ⟨w.heap.size, 0, none⟩)]] 94)) :
    (layOf w w5 w6 w8 f A0 c0 rt rv).OK ∧ PInv (layOf w w5 w6 w8 f A0 c0 rt rv) [] (.slice none 0 0) (fun k => F1 k ∨ F2 k) W ∧ Below w.heap.size w W := by
  have lt1 : rt < w6.heap.size := by rcases hrep1 with ⟨so, h, _⟩ | ⟨T, h, _⟩ <;> exact lt_heap h
  have lt2 : rv < w8.heap.size := by rcases hrep2 with ⟨so, h, _⟩ | ⟨T, h, _⟩ <;> exact lt_heap h
  have s5 := hb5.size
  have s6 := hb6.size
  have s8 := hb8.size
  simp only [Sz.alloc_size] at s5 s6 s8 hge1 hge2 hF1 hF2
  have sW : W.heap.size = w8.heap.size + 1 + 1 + 1 := by rw [hW]; simp
  have k8 : ∀ k o, w8.heap[k]? = some o → W.heap[k]? = some o := fun k o h => by rw [hW]; exact heap_old (heap_old (heap_old h))
  have k6 : ∀ k o, w6.heap[k]? = some o → w8.heap[k]? = some o := fun k o h => (hb8.block k (by have := lt_heap h; simp; omega)).trans (heap_old (heap_old h))
  have k5 : ∀ k o, w5.heap[k]? = some o → w6.heap[k]? = some o := fun k o h => (hb6.block k (by have := lt_heap h; simp; omega)).trans (heap_old (heap_old h))
  have hk8 : ∀ k, k < w8.heap.size → W.heap[k]? = w8.heap[k]? := fun k hk => by
    have e := Array.getElem?_eq_getElem hk
    exact (k8 k _ e).trans e.symm
  have hk6 : ∀ k, k < w6.heap.size → W.heap[k]? = w6.heap[k]? := fun k hk => by
    have e := Array.getElem?_eq_getElem hk
    exact (k8 k _ (k6 k _ e)).trans e.symm
  have hbox : w5.heap[w.heap.size]? = some (.cells #[.slice A0 f.length c0] 33 (0, 0)) := (hb5.block _ (by simp)).trans (World.alloc_heap_new _ _)
  have hbl : w6.heap[w5.heap.size]? = some (.cells #[.pointer none, .slice none 0 0] 91 (0, 0)) := (hb6.block _ (by simp; omega)).trans (heap_old (World.alloc_heap_new _ _))
  have hbt : w8.heap[w6.heap.size]? = some (.cells #[.pointer (some ⟨rt, 0, none⟩)] 92 (0, 0)) := (hb8.block _ (by simp; omega)).trans (heap_old (World.alloc_heap_new _ _))
  have hbel : Below w.heap.size w W := by
    have b1 : Below w.heap.size w w5 := bthen ((Below.refl _ _).alloc (Nat.le_refl _) _) hb5
    have b2 : Below w.heap.size w w6 := bthen ((b1.alloc b1.size _).alloc (by have := b1.size; simp; omega) _) hb6
    have b3 : Below w.heap.size w w8 := bthen ((b2.alloc b2.size _).alloc (by have := b2.size; simp; omega) _) hb8
    have := b3.size
    rw [hW]
    exact ((b3.alloc b3.size _).alloc (by simp; omega) _).alloc (by simp; omega) _
  refine ⟨?_, ?_, hbel⟩
  · constructor <;> simp only [layOf] <;> omega
  · refine ⟨k8 _ _ (k6 _ _ (k5 _ _ hbox)), k8 _ _ hbt, ?_, ?_, ?_, hrd.keep nodeE_keeps hbel (Nat.le_refl _), ⟨.inl (k8 _ _ (k6 _ _ hbl)), World.ownsRow_nil _ _ _ _, ?_, ?_⟩, ?_, ?_, ?_, ?_, ?_⟩
    · rw [hW]; exact heap_old (heap_old (World.alloc_heap_new _ _))
    · rw [hW]; exact heap_new (by simp [layOf])
    · rw [hW]; exact heap_old (heap_new (by simp [layOf]))
    · intro e; cases e
    · simp only [layOf]; omega
    · exact hrep1.keep (hk6 _ lt1) (fun k hk => hk6 k (hF1 k hk).2.1) (fun _ x => .inl x)
    · exact hrep2.keep (hk8 _ lt2) (fun k hk => hk8 k (hF2 k hk).2.1) (fun _ x => .inr x)
    · rintro k (hk | hk)
      · have := hF1 k hk
        simp only [layOf]
        exact ⟨by omega, by omega, by omega, by omega, fun e => by cases e⟩
      · have := hF2 k hk
        simp only [layOf]
        exact ⟨by omega, by omega, by omega, by omega, fun e => by cases e⟩
    · intro g hg; cases hg
    · simp only [layOf]; omega
theorem print_string {w w5 w6 w8 w9 : World} {f : Fo} {A0 : Option Addr} {c0 rt rv : Nat} {p : List UInt8} {v9 : Value} {Fs9 : Nat → Prop} (h : PInv (layOf w w5 w6 w8 f A0 c0 rt rv) ([] ++ p) v9 Fs9 w9) (hs : w.heap.size ≤ w9.heap.size) :
    Calls Try.prog 73 #[.pointer (some ⟨w5.heap.size, 0, none⟩)] w9 fun e w' => e = .returned (.string ⟨p.toArray⟩) ∧ Below w.heap.size w9 w' :=
  ShelfB.String_any w.heap.size w5.heap.size p w9 h.bd.lib hs
set_option maxRecDepth 100000 in
set_option maxHeartbeats 4000000 in
theorem print_yes (w : World) (v : Value) (f : Fo) (j : Nat) (h : RdF w.heap.size w v f) (hkm : ∀ n ∈ f, n.kids.length ≤ 1000) (hm : mayB f = true) (hj : j < f.length) :
    Calls Try.prog 35 #[v, .int .i64 j] w fun e w' => e = .returned (.string ⟨(printL f j).toArray⟩) ∧ Below w.heap.size w w' := by
  have hlen := h.len
  simp only [maxLen] at hlen
  obtain ⟨A0, c0, rfl, hl0, hc0, h'⟩ := h.form
  have hmy := FMay.May_calls (w.alloc (.cells #[.slice A0 f.length c0] 33)) _ f ((h'.keep nodeE_keeps ((Below.refl _ _).alloc (Nat.le_refl _) _) (Nat.le_refl _)).mono nodeE_keeps (by simp)) hkm
  rw [hm] at hmy
  have Hmy := Lib.hid hmy; have Hm := Lib.hid hm; have Hh := Lib.hid h'; have Hkm := Lib.hid hkm
  have hjn : (j : Int) < f.length := by omega
  clear hmy h h' hkm hm
  have Hn1 := Lib.hid new_text; have Hn2 := Lib.hid new_value
  have hmf : ∀ (fn : Fn) (first cap : Array Value) (w : World), (Instr.makeFunc fn first cap).run Try.prog w = .ok (.func fn first cap) w := fun _ _ _ _ => rfl
  go_enter Try.func35, Try.ntmps35
  go_upto_region 9 with (first
    | (go_at_call 32; (with_reducible refine (Hmy.out).mono ?_); rintro e w5 ⟨rfl, hb5⟩; have hcc := cell_grow hb5 (a := ⟨w.heap.size, 0, none⟩) (v := .slice A0 f.length c0) (by simp); have Hb5 := Lib.hid hb5; clear hb5)
    | (go_at_call 68; (with_reducible refine (Hn1.out _ _ (by simp)).mono ?_); rintro e w6 ⟨rt, F1, rfl, hge1, hrep1, hF1, hb6⟩; have Hge1 := Lib.hid hge1; have Hrep1 := Lib.hid hrep1; have HF1 := Lib.hid hF1; have Hb6 := Lib.hid hb6; clear hge1 hrep1 hF1 hb6)
    | (go_at_call 68; (with_reducible refine (Hn2.out _ _ (by simp)).mono ?_); rintro e w8 ⟨rv, F2, rfl, hge2, hrep2, hF2, hb8⟩; have Hge2 := Lib.hid hge2; have Hrep2 := Lib.hid hrep2; have HF2 := Lib.hid hF2; have Hb8 := Lib.hid hb8; clear hge2 hrep2 hF2 hb8))
  obtain ⟨W, hW⟩ : ∃ W, W = ((w8.alloc (.cells #[.pointer (some ⟨rv, 0, none⟩)] 92)).alloc (.cells #[.func (.func 70) #[] #[.pointer (some ⟨w5.heap.size, 0, none⟩), .pointer (some ⟨w6.heap.size, 0, none⟩), .pointer (some ⟨w8.heap.size + 1 + 1, 0, none⟩), .pointer (some ⟨w8.heap.size, 0, none⟩)]] 94)).alloc
      (.cells #[.func (.func 69) #[] #[.pointer (some ⟨w8.heap.size + 1, 0, none⟩), .pointer (some ⟨w.heap.size, 0, none⟩)]] 94) := ⟨_, rfl⟩
  have hin := print_init Hh.out Hb5.out Hge1.out Hrep1.out HF1.out Hb6.out Hge2.out Hrep2.out HF2.out Hb8.out hW
  rw [← hW]
  clear hW hcc
  obtain ⟨ok, hI, hbw⟩ := hin
  have hnode : isNode f (j : Int) = true := (node_iff _ _).2 ⟨by omega, hjn⟩
  have hput := put_all (layOf w w5 w6 w8 f A0 c0 rt rv) ok Hm.out hnode
  have hsm := print_small Hm.out hnode
  have hsm2 : ([] : List UInt8).length + (printL f j).length ≤ 1000000000 := by rw [List.length_nil]; omega
  have c1 : W.cell? ⟨w8.heap.size + 1, 0, none⟩ = _ := cell_of hI.vp
  have c2 : W.cell? ⟨w.heap.size, 0, none⟩ = _ := cell_of hI.vF
  obtain ⟨b1, o1, Aa1, ca1, Ak1, ck1, hA, hbl, g0, g1, g2, g3, g4, g5, ra, rk, la, lca, lk, lck, m1, m2, m3, m4⟩ := node_at hI.rd hj
  simp only [layOf] at c1 c2 hA
  rw [hA] at c2
  simp only [layOf] at g0 g1 g2 g3 g4 g5 ra rk
  rw [← at_nat hj] at ra rk g0 g1 g2 g3 g4 g5
  have hp : ∀ W', (W' = W ∨ W' = W.drew) → Calls Try.prog 70 #[nodeV (at_ f j) Aa1 ca1 Ak1 ck1, .pointer (some ⟨w5.heap.size, 0, none⟩), .pointer (some ⟨w6.heap.size, 0, none⟩), .pointer (some ⟨w8.heap.size + 1 + 1, 0, none⟩), .pointer (some ⟨w8.heap.size, 0, none⟩)] W' (DonePr (layOf w w5 w6 w8 f A0 c0 rt rv) [] (printL f j) (.slice none 0 0) W') := by
    rintro W' (rfl | rfl)
    · exact hput _ _ _ _ _ _ _ _ hI ra rk hsm2
    · exact hput _ _ _ _ _ _ _ _ (hI.drew ok) (rd_off attrE_keeps hI ok ra (Off.drew _ _)) (rd_off (intE_keeps _) hI ok rk (Off.drew _ _)) hsm2
  unfold nodeV at hp
  have hyl := hI.lo ok
  have Hp := Lib.hid hp; have Hbw := Lib.hid hbw; have Hok := Lib.hid ok; have Hyl := Lib.hid hyl
  have hlc : f.length ≤ c0 := by omega
  generalize at_ f j = n1 at *
  clear hp hput hsm hI ra rk la lca lk lck m1 m2 m3 m4 hA hnode hbw ok hyl
  go_region_with (go_at_call 70; (first | with_reducible refine (Hp.out _ (.inl rfl)).mono ?_ | with_reducible refine (Hp.out _ (.inr rfl)).mono ?_); go_loud (rintro e w9 ⟨rfl, v9, Fs9, hI9, hO9, hG9⟩; have Hst := Lib.hid (print_string hI9 (Nat.le_trans Hbw.out.size hO9.size)); have HI9 := Lib.hid hI9; have HO9 := Lib.hid hO9; clear hI9 hO9 hG9))
  all_goals go_wp2_with (go_at_call 73; (with_reducible refine (Hst.out).mono ?_); rintro e w10 ⟨rfl, hb10⟩; have Hb10 := Lib.hid hb10; clear hb10)
  all_goals
    go_ret
    refine ⟨rfl, ?_⟩
    first
      | exact (Hbw.out.trans (HO9.out.toBelow Hbw.out.size Hyl.out)).trans Hb10.out
      | exact ((Hbw.out.drew).trans (HO9.out.toBelow Hbw.out.size Hyl.out)).trans Hb10.out
      | exact ((Hbw.out.trans (HO9.out.toBelow Hbw.out.size Hyl.out)).drew).trans Hb10.out
      | exact (((Hbw.out.drew).trans (HO9.out.toBelow Hbw.out.size Hyl.out)).drew).trans Hb10.out
theorem Print_calls (w : World) (v : Value) (f : Fo) (id : Int) (h : RdF w.heap.size w v f) (hkm : ∀ n ∈ f, n.kids.length ≤ 1000) :
    Calls Try.prog 35 #[v, .int .i64 id] w fun e w' => e = .returned (.string ⟨(printF f id).toArray⟩) ∧ Below w.heap.size w w' := by
  by_cases hc : mayB f = true ∧ isNode f id = true
  · obtain ⟨j, rfl, hj⟩ := node_nat hc.2
    unfold printF
    rw [if_pos hc]
    exact print_yes w v f j h hkm hc.1 hj
  · exact print_no w v f id h hkm hc
end Go.Proofs.Ytbbompmpecblgaa.Pr
