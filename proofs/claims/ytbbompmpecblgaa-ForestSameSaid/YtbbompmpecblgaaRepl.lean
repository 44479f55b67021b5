/- strings.NewReplacer; what a replacer is in memory. -/
import Derived.Test.YtbbompmpecblgaaOnce
import Derived.Test.YtbbompmpecblgaaFPrS
namespace Go.Proofs.Ytbbompmpecblgaa.Repl
open Go Go.RowKit Go.Proofs.Ytbbompmpecblgaa.Seq Go.Proofs.Ytbbompmpecblgaa.Mem Go.Proofs.Ytbbompmpecblgaa.Build
set_option linter.unusedVariables false
set_option linter.unusedSimpArgs false

/-! The plain side. -/
abbrev Pairs := List (UInt8 × List UInt8)
def lkd (ps : Pairs) (c : UInt8) : Option (List UInt8) := (ps.find? (fun p => p.1 == c)).map (·.2)
def flat (ps : Pairs) : List ByteArray := ps.flatMap (fun p => [⟨#[p.1]⟩, ⟨p.2.toArray⟩])
theorem flat_length : ∀ ps : Pairs, (flat ps).length = 2 * ps.length
  | [] => rfl
  | p :: ps => by
    have := flat_length ps
    unfold flat at this ⊢
    rw [List.flatMap_cons, List.length_append, this]
    simp; omega
theorem flat_cons (p : UInt8 × List UInt8) (ps : Pairs) : flat (p :: ps) = ⟨#[p.1]⟩ :: ⟨p.2.toArray⟩ :: flat ps := by unfold flat; rw [List.flatMap_cons]; rfl
theorem flat_even : ∀ {ps : Pairs} {k : Nat} (h : k < ps.length), (flat ps)[2 * k]? = some ⟨#[ps[k].1]⟩
  | p :: ps, 0, h => by rw [flat_cons]; rfl
  | p :: ps, k + 1, h => by rw [flat_cons, show 2 * (k + 1) = 2 * k + 1 + 1 by omega, List.getElem?_cons_succ, List.getElem?_cons_succ, flat_even (by simpa using h)]; rfl
theorem flat_odd : ∀ {ps : Pairs} {k : Nat} (h : k < ps.length), (flat ps)[2 * k + 1]? = some ⟨ps[k].2.toArray⟩
  | p :: ps, 0, h => by rw [flat_cons]; rfl
  | p :: ps, k + 1, h => by rw [flat_cons, show 2 * (k + 1) + 1 = 2 * k + 1 + 1 + 1 by omega, List.getElem?_cons_succ, List.getElem?_cons_succ, flat_odd (by simpa using h)]; rfl

/-! The memory. -/
def onceRow (d : Int) (r so : Value) : Array Value := #[.int .u32 d, .int .i32 0, .int .u32 0, r, so]
def tabRow (tb : Nat → Value) (tr : Value) : Array Value := ((List.range 256).map tb ++ [tr]).toArray
/-- Block T is the table of ps; all that belongs to it lies in F. -/
def Table (T : Nat) (ps : Pairs) (ks : List UInt8) (F : Nat → Prop) (w : World) : Prop :=
  ∃ (tb : Nat → Value) (tr : Value), w.heap[T]? = some (.cells (tabRow tb tr) 198 (0, 0)) ∧ F T ∧
    (∀ c : UInt8, (lkd ps c = none → tb c.toNat = .slice none 0 0) ∧ ∀ r, lkd ps c = some r → ∃ g cap, tb c.toNat = .slice (some ⟨g, 0, none⟩) r.length cap ∧ F g ∧ g ≠ T ∧ tr.ownBlock ≠ some g ∧ g < w.heap.size ∧ ∀ j (h : j < r.length), w.cell? ⟨g, j, none⟩ = some (.int .u8 (r[j].toNat : Int))) ∧
    (w.ownsRow 0 9 1 tr ks.length (ks.map (fun c => Value.string ⟨#[c]⟩)) ∧ ∀ g, tr.ownBlock = some g → F g ∧ g ≠ T)
def keysOf (ps : Pairs) : List UInt8 := (ps.map (·.1)).reverse
/-- Block rb is a replacer of ps; all that belongs to it lies in F. -/
def IsRep (rb : Nat) (ps : Pairs) (F : Nat → Prop) (w : World) : Prop :=
  (∃ so, w.heap[rb]? = some (.cells (onceRow 0 .nilIface so) 133 (0, 0)) ∧ w.ownsRow 0 9 1 so (flat ps).length ((flat ps).map Value.string) ∧ ∀ g, so.ownBlock = some g → F g) ∨
  (∃ T, w.heap[rb]? = some (.cells (onceRow 1 (.iface 199 (.pointer (some ⟨T, 0, none⟩))) (.slice none 0 0)) 133 (0, 0)) ∧ Table T ps (keysOf ps) F w)
theorem cell_same {w w' : World} {g : Nat} (h : w'.heap[g]? = w.heap[g]?) (j : Nat) : w'.cell? ⟨g, j, none⟩ = w.cell? ⟨g, j, none⟩ := by simp [World.cell?, h]
theorem Table.keep {T : Nat} {ps : Pairs} {ks : List UInt8} {F F' : Nat → Prop} {w w' : World} (h : Table T ps ks F w) (hF : ∀ k, F k → w'.heap[k]? = w.heap[k]?) (hF' : ∀ k, F k → F' k) : Table T ps ks F' w' := by
  obtain ⟨tb, tr, h1, h2, h3, h4, h5⟩ := h
  refine ⟨tb, tr, (hF T h2).trans h1, hF' T h2, fun c => ⟨(h3 c).1, fun r hr => ?_⟩, own_keep h4 (fun g hg => hF g (h5 g hg).1), fun g hg => ⟨hF' g (h5 g hg).1, (h5 g hg).2⟩⟩
  obtain ⟨g, cap, hg, hfg, hgT, hgr, hlt, ho⟩ := (h3 c).2 r hr
  have e := hF g hfg
  refine ⟨g, cap, hg, hF' g hfg, hgT, hgr, ?_, fun j hj => (cell_same e j).trans (ho j hj)⟩
  have h6 : w'.heap[g]? = some w.heap[g] := e.trans (Array.getElem?_eq_getElem hlt)
  exact lt_heap h6
theorem IsRep.keep {rb : Nat} {ps : Pairs} {F F' : Nat → Prop} {w w' : World} (h : IsRep rb ps F w) (hr : w'.heap[rb]? = w.heap[rb]?) (hF : ∀ k, F k → w'.heap[k]? = w.heap[k]?) (hF' : ∀ k, F k → F' k) : IsRep rb ps F' w' := by
  rcases h with ⟨so, h1, h2, h3⟩ | ⟨T, h1, h2⟩
  · exact .inl ⟨so, hr.trans h1, own_keep h2 (fun g hg => hF g (h3 g hg)), fun g hg => hF' g (h3 g hg)⟩
  · exact .inr ⟨T, hr.trans h1, h2.keep hF hF'⟩
theorem info_str : (Try.prog.info? 9).map (fun i => (i.zero, i.size, i.bytes)) = some (some (.string ⟨#[]⟩), 1, 16) := by kernel_rfl
theorem str_one (l : List ByteArray) : ∀ u ∈ l.map Value.string, u.oneCell' = true := by
  intro u hu
  obtain ⟨s, _, rfl⟩ := List.mem_map.1 hu
  rfl
theorem own_base {w : World} {base base' : Nat} {e : TypeId} {sz : Nat} {v : Value} {n : Nat} {xs : List Value} (h : w.ownsRow base e sz v n xs) (hb : base' ≤ base) : w.ownsRow base' e sz v n xs := by
  refine ⟨h.1, ?_⟩
  rcases h.2 with h2 | ⟨g, cap, cur, h2, h3, h4⟩
  · exact .inl h2
  · exact .inr ⟨g, cap, cur, h2, Nat.le_trans hb h3, h4⟩
theorem setCell_row {w : World} {b i : Nat} {cs : Array Value} {t : TypeId} {fz : Nat × Nat} {v : Value} (h : w.heap[b]? = some (.cells cs t fz)) : (w.setCell ⟨b, i, none⟩ v).heap[b]? = some (.cells (cs.setIfInBounds i v) t fz) := by
  simp only [World.setCell, Array.getElem?_modify, h]
  simp
def NewPost (w : World) (ps : Pairs) (e : Ending) (w' : World) : Prop :=
  ∃ rb F, e = .returned (.pointer (some ⟨rb, 0, none⟩)) ∧ w.heap.size ≤ rb ∧ IsRep rb ps F w' ∧ (∀ k, F k → w.heap.size ≤ k ∧ k < w'.heap.size ∧ k ≠ rb) ∧ Below w.heap.size w w'
set_option maxRecDepth 100000 in
theorem NewReplacer_calls (w : World) (ps : Pairs) (hn : 0 < ps.length) (hn2 : ps.length ≤ 100) (b : Nat) (hb : w.heap[b]? = some (.cells ((flat ps).map Value.string).toArray 9 (0, 0))) (n : Nat) (hnn : n = (flat ps).length) :
    Calls Try.prog 68 #[.slice (some ⟨b, 0, none⟩) n n] w (NewPost w ps) := by
  have hl := flat_length ps
  obtain ⟨i0, hi, hz0, hz1, hz2⟩ := info_parts info_str
  have hcell : ∀ j u, ((flat ps).map Value.string)[j]? = some u → w.cell? ((⟨b, 0, none⟩ : Addr).add j) = some u := fun j u hj => by
    rw [Addr.add_lit, cell_of_row _ _ _ _ _ _ hb]
    simpa using hj
  have hm2 : (n : Int) % 2 = 0 := by omega
  have hlen : ((flat ps).map Value.string).length = n * 1 := by rw [List.length_map]; omega
  have hn3 : n ≤ 200 := by omega
  have Hcell := Lib.hid hcell; have Hlen := Lib.hid hlen; have Hnn := Lib.hid hnn
  clear hcell hlen hl hb hnn
  go_enter Try.func68, Try.ntmps68
  go_wp2_with (at_builtin; go_loud (refine wpList_append_own_at w rfl _ _ 22 rfl w.heap.size 9 i0 (.string ⟨#[]⟩) 1 16 Try.underlying22 hi hz0 hz1 hz2 rfl (by decide) (.slice none 0 0) 0 [] rfl (World.ownsRow_nil _ _ _ _) ⟨b, 0, none⟩ n n ((flat ps).map Value.string) rfl Hlen.out Hcell.out (str_one _) (by simp only [maxLen]; omega) (by omega) (Nat.le_refl _) ?_); rintro v1 w1 hown hgrow hnil hat; obtain ⟨A1, n1, c1, rfl⟩ := own_form hown; have Hown := Lib.hid hown; have Hgrow := Lib.hid hgrow; have Hat := Lib.hid hat; clear hown hgrow hnil hat)
  go_ret
  refine ⟨w1.heap.size, fun k => (Value.slice A1 n1 c1).ownBlock = some k, rfl, Hgrow.out.size, .inl ⟨.slice A1 n1 c1, heap_new rfl, ?_, fun g hg => hg⟩, fun k hk => ?_, ?_⟩
  · have h1 := own_keep Hown.out (w' := w1.alloc (.cells (onceRow 0 .nilIface (.slice A1 n1 c1)) 133)) (fun g hg => Below.heap_alloc _ _ _ (Hown.out.lt g hg).2)
    rw [List.nil_append, Nat.zero_add] at h1
    rw [← Hnn.out]
    exact own_base h1 (Nat.zero_le _)
  · have := Hown.out.lt k hk
    exact ⟨this.1, by simp; omega, by omega⟩
  · exact ((Off.grown (Y := fun b => w.heap.size ≤ b) Hgrow.out (fun r hr => by cases hr)).toBelow (Nat.le_refl _) (fun b hb => hb)).alloc Hgrow.out.size _
end Go.Proofs.Ytbbompmpecblgaa.Repl
