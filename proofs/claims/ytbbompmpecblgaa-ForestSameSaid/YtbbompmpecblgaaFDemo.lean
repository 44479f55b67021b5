/- The forest that the law's first lines show. No program. -/
import Derived.Test.YtbbompmpecblgaaFPrS
namespace Go.Proofs.Ytbbompmpecblgaa.FS
open Go.Proofs.Ytbbompmpecblgaa.WS
set_option linter.unusedVariables false
def demoF : Fo := [⟨0, ⟨#[]⟩, ⟨#[]⟩, [], -1, [1]⟩, ⟨1, ⟨#[100, 105, 118]⟩, ⟨#[]⟩, [], 0, [2]⟩, ⟨2, ⟨#[]⟩, ⟨#[120, 60]⟩, [], 1, []⟩]
theorem demo_family : familyB demoF = true := by decide
theorem demo_climbs : climbsP demoF := by
  intro i hi
  have h3 : i < 3 := hi
  match i, h3 with
  | 0, _ => exact ⟨1, by simp only [Up]; decide⟩
  | 1, _ => exact ⟨2, by simp only [Up]; decide⟩
  | 2, _ => exact ⟨3, by simp only [Up]; decide⟩
theorem demo_may : mayB demoF = true := by
  unfold mayB
  rw [demo_family, climbs_true demo_climbs]
  decide
theorem demo_below : belowB demoF 0 2 = true := below_eq demo_may (by decide) ⟨fun _ => rfl, fun _ => ⟨by decide, 2, by simp only [Reach]; decide⟩⟩
theorem demo_tops : (topsL demoF).length = 1 := by decide
theorem demo_print : printF demoF 0 = [60, 100, 105, 118, 62, 120, 38, 108, 116, 59, 60, 47, 100, 105, 118, 62] := by
  unfold printF
  rw [if_pos ⟨demo_may, by decide⟩, printL_eq demo_family demo_climbs (by decide)]
  rw [show (at_ demoF 0).kids = [1] by decide, List.flatMap_cons, List.flatMap_nil, printL_eq demo_family demo_climbs (by decide)]
  rw [show (at_ demoF 1).kids = [2] by decide, List.flatMap_cons, List.flatMap_nil, printL_eq demo_family demo_climbs (by decide)]
  rw [show (at_ demoF 2).kids = [] by decide, List.flatMap_nil]
  decide
end Go.Proofs.Ytbbompmpecblgaa.FS
