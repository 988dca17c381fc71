/- The law TallyStays is true at every input: what is done stays done, what is lost stays lost, and never both. No conditions. -/
import Derived.Test.YtpbgiccloeihcaaI
import Derived.Test.YtpbgiccloeihcaaRows
import Derived.ProofKit
open Go Go.Tl Go.RowKit
set_option linter.unusedSimpArgs false
set_option linter.unusedVariables false
set_option linter.unnecessarySimpa false
namespace Go.Proofs.Ytpbgiccloeihcaa

theorem ownTallyStays : ownKnob Try.prog.godebug = none := by kernel_rfl
theorem laidOutTallyStays : laidOutB Try.prog = true := by kernel_rfl
theorem shTallyStays : Try.f4.params.toList.mapM (shArg Try.prog) = some [.int .i64, .int .i64, .sl (.pair .bool (.pair (.sl (.int .i64)) .unit))] := by kernel_rfl

set_option maxRecDepth 100000 in
theorem TallyStays_lifted (os : Os) (started : os.Started) (H : Type) (enc : TypeId × Value → H) :
    ReturnsInHanded {} Try.checked os 4 .any (Rows.tallyStaysSpec.pre6 enc Try.prog Try.f4 Rows.tallyStaysRow.domain false) (Rows.tallyStaysSpec.post enc Try.prog Try.f4 false true false false) :=
  law_lifted (C := Try.checked) ownTallyStays started (by kernel_rfl) Try.func4
    (ChangeSpec.witness6 (enc := enc) (C := Try.checked) false ⟨#[], #[.int .i64 0, .int .i64 0, .slice none 0 0], []⟩ 8 (by kernel_rfl) (by kernel_rfl) (by kernel_rfl) (by kernel_rfl))
    laidOutTallyStays shTallyStays rfl (by kernel_rfl) rfl (fun ds hds => by
      match ds, hds with
      | [_, _, _], _ => rfl) (fun ms hms => by
      obtain ⟨m0, _, rfl, h0, m1, _, rfl, h1, m2, _, rfl, h2, hn⟩ := hms
      rw [show _ = [] from hn]
      obtain ⟨n0, e0, g0, g0'⟩ := tree_int h0
      obtain ⟨n1, e1, g1, g1'⟩ := tree_int h1
      obtain ⟨n2, e2, g2, g2'⟩ := tree_rows h2 say_tree
      simp only [List.cons.injEq, and_true] at e0 e1 e2
      subst e0 e1 e2
      exact lawStays n0 n1 n2)

theorem TallyStays_holds : Rows.TallyStaysSaid :=
  OpenClaim.holds_of_wide 4 Try.f4 rfl rfl rfl rfl rfl rfl rfl ⟨rfl, rfl, rfl, rfl, rfl⟩ rfl rfl rfl rfl rfl (by kernel_rfl) Try.func4 (by kernel_rfl)
    (of_decide_eq_true (by kernel_rfl)) (by unfold Func.isWrapper; first | (rw [if_pos (by decide +kernel)]; kernel_rfl) | (rw [if_neg (by decide +kernel)]; exact ⟨rfl, rfl⟩))
    (fun os started H enc _ => TallyStays_lifted os started H enc)
end Go.Proofs.Ytpbgiccloeihcaa
