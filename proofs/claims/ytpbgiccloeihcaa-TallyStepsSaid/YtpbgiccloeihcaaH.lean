/- The law TallySteps is true at every input: whatever is said, in whatever order, the tally tells behind each answer what the document's tally tells. No conditions. -/
import Derived.Test.YtpbgiccloeihcaaG
import Derived.Test.YtpbgiccloeihcaaRows
import Derived.ProofKit
open Go Go.Tl Go.RowKit
set_option linter.unusedSimpArgs false
set_option linter.unusedVariables false
set_option linter.unnecessarySimpa false
namespace Go.Proofs.Ytpbgiccloeihcaa

theorem own : ownKnob Try.prog.godebug = none := by kernel_rfl
theorem laidOut : laidOutB Try.prog = true := by kernel_rfl
theorem stepsSh : Try.f3.params.toList.mapM (shArg Try.prog) = some [.int .i64, .int .i64, .sl (.pair .bool (.pair (.sl (.int .i64)) .unit))] := by kernel_rfl

set_option maxRecDepth 100000 in
theorem TallySteps_lifted (os : Os) (started : os.Started) (H : Type) (enc : TypeId × Value → H) :
    ReturnsInHanded {} Try.checked os 3 .any (Rows.tallyStepsSpec.pre6 enc Try.prog Try.f3 Rows.tallyStepsRow.domain false) (Rows.tallyStepsSpec.post enc Try.prog Try.f3 false true false false) :=
  law_lifted (C := Try.checked) own started (by kernel_rfl) Try.func3
    (ChangeSpec.witness6 (enc := enc) (C := Try.checked) false ⟨#[], #[.int .i64 0, .int .i64 0, .slice none 0 0], []⟩ 8 (by kernel_rfl) (by kernel_rfl) (by kernel_rfl) (by kernel_rfl))
    laidOut stepsSh rfl (by kernel_rfl) rfl (fun ds hds => by
      match ds, hds with
      | [_, _, _], _ => rfl) (fun ms hms => by
      obtain ⟨m0, _, rfl, h0, m1, _, rfl, h1, m2, _, rfl, h2, hn⟩ := hms
      rw [show _ = [] from hn]
      obtain ⟨n0, e0, _, _⟩ := tree_int h0
      obtain ⟨n1, e1, _, _⟩ := tree_int h1
      obtain ⟨l, e2, _, _⟩ := tree_rows h2 say_tree
      simp only [List.cons.injEq, and_true] at e0 e1 e2
      subst e0 e1 e2
      exact lawSteps n0 n1 l)

theorem TallySteps_holds : Rows.TallyStepsSaid :=
  OpenClaim.holds_of_wide 3 Try.f3 rfl rfl rfl rfl rfl rfl rfl ⟨rfl, rfl, rfl, rfl, rfl⟩ rfl rfl rfl rfl rfl (by kernel_rfl) Try.func3 (by kernel_rfl)
    (of_decide_eq_true (by kernel_rfl)) (by unfold Func.isWrapper; first | (rw [if_pos (by decide +kernel)]; kernel_rfl) | (rw [if_neg (by decide +kernel)]; exact ⟨rfl, rfl⟩))
    (fun os started H enc _ => TallySteps_lifted os started H enc)
end Go.Proofs.Ytpbgiccloeihcaa
