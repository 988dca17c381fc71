/- The law TallySum is true at every input: all nodes have said yes, or no, or nothing, and what is told is new memory. No conditions. -/
import Derived.Test.YtpbgiccloeihcaaK
import Derived.Test.YtpbgiccloeihcaaRows
import Derived.ProofKit
open Go Go.Tl Go.RowKit
set_option linter.unusedSimpArgs false
set_option linter.unusedVariables false
set_option linter.unnecessarySimpa false
namespace Go.Proofs.Ytpbgiccloeihcaa

theorem ownTallySum : ownKnob Try.prog.godebug = none := by kernel_rfl
theorem laidOutTallySum : laidOutB Try.prog = true := by kernel_rfl
theorem shTallySum : Try.f7.params.toList.mapM (shArg Try.prog) = some [.int .i64, .int .i64, .sl (.pair .bool (.pair (.sl (.int .i64)) .unit))] := by kernel_rfl

set_option maxRecDepth 100000 in
theorem TallySum_lifted (os : Os) (started : os.Started) (H : Type) (enc : TypeId × Value → H) :
    ReturnsInHanded {} Try.checked os 7 .any (Rows.tallySumSpec.pre6 enc Try.prog Try.f7 Rows.tallySumRow.domain false) (Rows.tallySumSpec.post enc Try.prog Try.f7 false true false false) :=
  law_lifted (C := Try.checked) ownTallySum started (by kernel_rfl) Try.func7
    (ChangeSpec.witness6 (enc := enc) (C := Try.checked) false ⟨#[], #[.int .i64 0, .int .i64 0, .slice none 0 0], []⟩ 8 (by kernel_rfl) (by kernel_rfl) (by kernel_rfl) (by kernel_rfl))
    laidOutTallySum shTallySum rfl (by kernel_rfl) rfl (fun ds hds => by
      match ds, hds with
      | [_, _, _], _ => rfl) (fun ms hms => by
      obtain ⟨m0, _, rfl, h0, m1, _, rfl, h1, m2, _, rfl, h2, hn⟩ := hms
      rw [show _ = [] from hn]
      obtain ⟨n0, e0, g0, g0'⟩ := tree_int h0
      obtain ⟨n1, e1, g1, g1'⟩ := tree_int h1
      obtain ⟨n2, e2, g2, g2'⟩ := tree_rows h2 say_tree
      simp only [List.cons.injEq, and_true] at e0 e1 e2
      subst e0 e1 e2
      exact lawSum n0 n1 n2)

theorem TallySum_holds : Rows.TallySumSaid :=
  OpenClaim.holds_of_wide 7 Try.f7 rfl rfl rfl rfl rfl rfl rfl ⟨rfl, rfl, rfl, rfl, rfl⟩ rfl rfl rfl rfl rfl (by kernel_rfl) Try.func7 (by kernel_rfl)
    (of_decide_eq_true (by kernel_rfl)) (by unfold Func.isWrapper; first | (rw [if_pos (by decide +kernel)]; kernel_rfl) | (rw [if_neg (by decide +kernel)]; exact ⟨rfl, rfl⟩))
    (fun os started H enc _ => TallySum_lifted os started H enc)
end Go.Proofs.Ytpbgiccloeihcaa
