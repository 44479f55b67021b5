/- How forests lie in memory. -/
import Derived.Test.YtbbompmpecblgaaProg
import Derived.Test.YtbbompmpecblgaaRd
import Derived.Test.YtbbompmpecblgaaFSpec
import Derived.Tactics
import Derived.KernelRfl
namespace Go.Proofs.Ytbbompmpecblgaa.Shapes
open Go Go.RowKit Go.Deep Go.Proofs.Ytbbompmpecblgaa.Rd
open Go.Proofs.Ytbbompmpecblgaa.FS (Av Nd Fo)
set_option linter.unusedVariables false

def attrE : Elem Av := fun _ _ cs a => cs = [.string a.name, .string a.value] ∧ a.name.size ≤ maxLen ∧ a.value.size ≤ maxLen
theorem attrE_keeps : attrE.Keeps := fun _ _ _ _ _ _ h _ _ => h
def nodeE : Elem Nd := fun B w cs n => ∃ va vk, cs = [.int .i64 n.kind, .string n.name, .string n.text, va, .int .i64 n.parent, vk] ∧ RdL attrE 2 B w va n.attrs ∧ RdL (intE .i64) 1 B w vk n.kids ∧
  n.name.size ≤ maxLen ∧ n.text.size ≤ maxLen ∧ (Lit.int .i64 n.kind).wf = true ∧ (Lit.int .i64 n.parent).wf = true
theorem nodeE_keeps : nodeE.Keeps := fun B B' w w' cs n ⟨va, vk, h1, h2, h3, h4⟩ hb hB => ⟨va, vk, h1, h2.keep attrE_keeps hb hB, h3.keep (intE_keeps _) hb hB, h4⟩
/-- v reads as the forest f. -/
abbrev RdF := RdL nodeE 6

section
variable {H : Type} {enc : TypeId × Value → H} {P : Program} {w : World} {base : Nat} {spare : Nat → Bool} {held : Bool}
theorem opens_attr {e : TypeId} {f0 f1 : Field} (hs : P.underlying e = some (.struct #[f0, f1])) (hone : oneCellFields P #[f0, f1] = true) (hC : P.cellsOf e = 2) (h0 : P.underlying f0.type = some .string) (h1 : P.underlying f1.type = some .string) :
    Opens enc P w base spare held e attrE := fun fuel cs x h => by
  obtain ⟨xs, n, _, hx, hlc, hlen, hg⟩ := DataW.trod_struct hs h
  rw [hC] at hlc
  match cs, hlc with
  | [c0, c1], _ =>
    obtain ⟨o0, k0⟩ := hone_of hone 0 f0 rfl
    obtain ⟨o1, k1⟩ := hone_of hone 1 f1 rfl
    match xs, hlen with
    | [y0, y1], _ =>
      have g0 := hg 0 f0 rfl
      have g1 := hg 1 f1 rfl
      simp [o0, k0] at g0
      simp [o1, k1] at g1
      obtain ⟨s0, e0, _, m0⟩ := DataW.trod_string h0 g0
      obtain ⟨s1, e1, _, m1⟩ := DataW.trod_string h1 g1
      simp at e0 e1
      exact ⟨⟨s0, s1⟩, by rw [e0, e1], m0, m1⟩
theorem opens_node {e ea ek : TypeId} {f0 f1 f2 f3 f4 f5 : Field} (hs : P.underlying e = some (.struct #[f0, f1, f2, f3, f4, f5])) (hone : oneCellFields P #[f0, f1, f2, f3, f4, f5] = true) (hC : P.cellsOf e = 6)
    (h0 : P.underlying f0.type = some (.int .i64)) (h1 : P.underlying f1.type = some .string) (h2 : P.underlying f2.type = some .string) (h3 : P.underlying f3.type = some (.slice ea)) (h4 : P.underlying f4.type = some (.int .i64)) (h5 : P.underlying f5.type = some (.slice ek))
    (hea : P.cellsOf ea = 2) (hoa : Opens enc P w base spare held ea attrE) (hek : P.cellsOf ek = 1) (hki : P.underlying ek = some (.int .i64)) :
    Opens enc P w base spare held e nodeE := fun fuel cs x h => by
  obtain ⟨xs, n, _, hx, hlc, hlen, hg⟩ := DataW.trod_struct hs h
  rw [hC] at hlc
  match cs, hlc with
  | [c0, c1, c2, c3, c4, c5], _ =>
    obtain ⟨o0, k0⟩ := hone_of hone 0 f0 rfl
    obtain ⟨o1, k1⟩ := hone_of hone 1 f1 rfl
    obtain ⟨o2, k2⟩ := hone_of hone 2 f2 rfl
    obtain ⟨o3, k3⟩ := hone_of hone 3 f3 rfl
    obtain ⟨o4, k4⟩ := hone_of hone 4 f4 rfl
    obtain ⟨o5, k5⟩ := hone_of hone 5 f5 rfl
    match xs, hlen with
    | [y0, y1, y2, y3, y4, y5], _ =>
      have g0 := hg 0 f0 rfl
      have g1 := hg 1 f1 rfl
      have g2 := hg 2 f2 rfl
      have g3 := hg 3 f3 rfl
      have g4 := hg 4 f4 rfl
      have g5 := hg 5 f5 rfl
      simp [o0, k0] at g0
      simp [o1, k1] at g1
      simp [o2, k2] at g2
      simp [o3, k3] at g3
      simp [o4, k4] at g4
      simp [o5, k5] at g5
      obtain ⟨z0, e0, _, m0⟩ := DataW.trod_int h0 g0
      obtain ⟨z1, e1, _, m1⟩ := DataW.trod_string h1 g1
      obtain ⟨z2, e2, _, m2⟩ := DataW.trod_string h2 g2
      obtain ⟨l3, v3, e3, m3⟩ := opens_slice 2 h3 hea (by omega) hoa _ _ _ g3
      obtain ⟨z4, e4, _, m4⟩ := DataW.trod_int h4 g4
      obtain ⟨l5, v5, e5, m5⟩ := opens_slice 1 h5 hek (by omega) (opens_int hki) _ _ _ g5
      simp at e0 e1 e2 e3 e4 e5
      exact ⟨⟨z0, z1, z2, l3, z4, l5⟩, v3, v5, by rw [e0, e1, e2, e3, e4, e5], m3, m5, m1, m2, m0, m4⟩
theorem opens_forest_Node {enc : TypeId × Value → H} {w : World} : Opens enc Try.prog w base spare held 45 nodeE :=
  opens_node Try.underlying45 (by kernel_rfl) (by kernel_rfl) Try.underlying3 Try.underlying9 Try.underlying9 Try.underlying43 Try.underlying3 Try.underlying40 (by kernel_rfl)
    (opens_attr Try.underlying80 (by kernel_rfl) (by kernel_rfl) Try.underlying9 Try.underlying9) (by kernel_rfl) Try.underlying3
end
end Go.Proofs.Ytbbompmpecblgaa.Shapes
