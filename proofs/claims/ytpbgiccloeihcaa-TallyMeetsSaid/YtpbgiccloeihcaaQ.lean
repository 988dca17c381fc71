/- The law TallyMeets is true at every input: where both questions together need more than all nodes, some node has said yes to both. No conditions. -/
import Derived.Test.YtpbgiccloeihcaaO
import Derived.Test.YtpbgiccloeihcaaRows
import Derived.ProofKit
open Go Go.Tl Go.RowKit
set_option linter.unusedSimpArgs false
set_option linter.unusedVariables false
set_option linter.unnecessarySimpa false
namespace Go.Proofs.Ytpbgiccloeihcaa

theorem ownTallyMeets : ownKnob Try.prog.godebug = none := by kernel_rfl
theorem laidOutTallyMeets : laidOutB Try.prog = true := by kernel_rfl
theorem shTallyMeets : Try.f6.params.toList.mapM (shArg Try.prog) = some [.int .i64, .int .i64, .int .i64, .sl (.int .i64), .sl (.int .i64)] := by kernel_rfl

set_option maxRecDepth 100000 in
theorem TallyMeets_lifted (os : Os) (started : os.Started) (H : Type) (enc : TypeId × Value → H) :
    ReturnsInHanded {} Try.checked os 6 .any (Rows.tallyMeetsSpec.pre6 enc Try.prog Try.f6 Rows.tallyMeetsRow.domain false) (Rows.tallyMeetsSpec.post enc Try.prog Try.f6 false true false false) :=
  law_lifted (C := Try.checked) ownTallyMeets started (by kernel_rfl) Try.func6
    (ChangeSpec.witness6 (enc := enc) (C := Try.checked) false ⟨#[], #[.int .i64 0, .int .i64 0, .int .i64 0, .slice none 0 0, .slice none 0 0], []⟩ 8 (by kernel_rfl) (by kernel_rfl) (by kernel_rfl) (by kernel_rfl))
    laidOutTallyMeets shTallyMeets rfl (by kernel_rfl) rfl (fun ds hds => by
      match ds, hds with
      | [_, _, _, _, _], _ => rfl) (fun ms hms => by
      obtain ⟨m0, _, rfl, h0, m1, _, rfl, h1, m2, _, rfl, h2, m3, _, rfl, h3, m4, _, rfl, h4, hn⟩ := hms
      rw [show _ = [] from hn]
      obtain ⟨n0, e0, g0, g0'⟩ := tree_int h0
      obtain ⟨n1, e1, g1, g1'⟩ := tree_int h1
      obtain ⟨n2, e2, g2, g2'⟩ := tree_int h2
      obtain ⟨n3, e3, g3, g3'⟩ := tree_ints h3
      obtain ⟨n4, e4, g4, g4'⟩ := tree_ints h4
      simp only [List.cons.injEq, and_true] at e0 e1 e2 e3 e4
      subst e0 e1 e2 e3 e4
      exact lawMeets n0 n1 n2 n3 n4)

theorem TallyMeets_holds : Rows.TallyMeetsSaid :=
  OpenClaim.holds_of_wide 6 Try.f6 rfl rfl rfl rfl rfl rfl rfl ⟨rfl, rfl, rfl, rfl, rfl⟩ rfl rfl rfl rfl rfl (by kernel_rfl) Try.func6 (by kernel_rfl)
    (of_decide_eq_true (by kernel_rfl)) (by unfold Func.isWrapper; first | (rw [if_pos (by decide +kernel)]; kernel_rfl) | (rw [if_neg (by decide +kernel)]; exact ⟨rfl, rfl⟩))
    (fun os started H enc _ => TallyMeets_lifted os started H enc)
end Go.Proofs.Ytpbgiccloeihcaa
