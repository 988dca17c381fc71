import Derived.Test.YtpbgiccloeihcaaD
open Go Go.Tl
set_option linter.unusedSimpArgs false
set_option linter.unusedVariables false
set_option linter.unnecessarySimpa false
namespace Go.Proofs.Ytpbgiccloeihcaa

set_option maxHeartbeats 2000000 in
theorem alive : Con Try.prog 8 [] [] fun m T' => m = .v (.bool true) ∧ T' = [] := by
  have e0 : none0 3 = [0, 0, 0] := by decide
  have f1 : says 1 [1, 1] [0, 0, 0] = [0, 1, 0] := by decide
  have f2 : says 2 [0] [0, 1, 0] = [2, 1, 0] := by decide
  have f3 : says 1 [2] [2, 1, 0] = [2, 1, 1] := by decide
  have c1 : cnt 1 [0, 0, 0] = 0 := by decide
  have c2 : cnt 1 [2, 1, 0] = 1 := by decide
  have c3 : cnt 2 [2, 1, 0] = 1 := by decide
  have c4 : cnt 0 [2, 1, 0] = 1 := by decide
  have c5 : cnt 1 [2, 1, 1] = 2 := by decide
  have c6 : cnt 0 [2, 1, 1] = 0 := by decide
  have w0 : whr 0 [2, 1, 0] = [2] := by decide
  refine Con.by Try.func8 en8 rfl (by simp [Try.ntmps8]) fun R hR hF hU => ?_; rw [Try.ntmps8]
  repeat' (first
    | refine WpC.seqC lv8 rfl ?_
    | refine WpC.blockC rfl ?_
    | (refine WpC.reg rfl rfl ?_; simp -implicitDefEqProofs -dsimp [-List.map_set, -List.map_append, -List.map_replicate, fold_int, fold_ints, fold_u8, fold_u8s, lv8])
    | (refine WpC.regP rfl (by decide +kernel) fol (by decide +kernel) (by decide +kernel) ?_; simp -implicitDefEqProofs -dsimp [-List.map_set, -List.map_append, -List.map_replicate, fold_int, fold_ints, fold_u8, fold_u8s, lv8])
    | (refine WpC.regI dr8 rfl rfl (by decide +kernel) fol ?_; simp -implicitDefEqProofs -dsimp [dr8, -List.map_set, -List.map_append, -List.map_replicate, fold_int, fold_ints, fold_u8, fold_u8s, lv8])
    | (refine WpC.regM dm8 rfl rfl (by decide +kernel) fol ?_; simp -implicitDefEqProofs -dsimp [dm8, -List.map_set, -List.map_append, -List.map_replicate, fold_int, fold_ints, fold_u8, fold_u8s, lv8])
    | (refine WpC.regQ dq8 rfl rfl (by decide +kernel) fol ?_; simp -implicitDefEqProofs -dsimp [dq8, -List.map_set, -List.map_append, -List.map_replicate, fold_int, fold_ints, fold_u8, fold_u8s, lv8])
    | (refine WpC.skipC rfl ?_; try simp -implicitDefEqProofs -dsimp [-List.map_set, -List.map_append, -List.map_replicate, fold_int, fold_ints, fold_u8, fold_u8s, lv8])
    | (refine WpC.retC rfl ?_; try simp -implicitDefEqProofs -dsimp [-List.map_set, -List.map_append, -List.map_replicate, fold_int, fold_ints, fold_u8, fold_u8s, lv8])
    | (refine WpC.exitC rfl ?_; try simp -implicitDefEqProofs -dsimp [-List.map_set, -List.map_append, -List.map_replicate, fold_int, fold_ints, fold_u8, fold_u8s, lv8])
    | (refine WpC.condK rfl ?_; simp -implicitDefEqProofs -dsimp [-List.map_set, -List.map_append, -List.map_replicate, fold_int, fold_ints, fold_u8, fold_u8s, lv8])
    | with_reducible refine And.intro (fun _ => ?_) (fun _ => ?_)
    | (with_reducible refine And.intro (by omega) ?_))
  refine CallX.by4 (New 3 2) false [] 6 (by simp) (by simp) (by simp) (by simp -implicitDefEqProofs [-List.map_set, -List.map_append, -List.map_replicate, fold_int, fold_ints, fold_u8, fold_u8s, rs, rsOb, List.idxOf?_cons, e0, f1, f2, f3, c1, c2, c3, c4, c5, c6, w0]) (by simp -implicitDefEqProofs [-List.map_set, -List.map_append, -List.map_replicate, fold_int, fold_ints, fold_u8, fold_u8s, rs, rsOb, List.idxOf?_cons, e0, f1, f2, f3, c1, c2, c3, c4, c5, c6, w0]) ?_; rintro m T' ⟨rfl, rfl⟩ -; simp -implicitDefEqProofs -dsimp [-List.map_set, -List.map_append, -List.map_replicate, fold_int, fold_ints, fold_u8, fold_u8s, frOb, obMp, setAll, setOb, gMap, lv8, e0, f1, f2, f3, c1, c2, c3, c4, c5, c6, w0]
  repeat' (first
    | refine WpC.seqC lv8 rfl ?_
    | refine WpC.blockC rfl ?_
    | (refine WpC.reg rfl rfl ?_; simp -implicitDefEqProofs -dsimp [-List.map_set, -List.map_append, -List.map_replicate, fold_int, fold_ints, fold_u8, fold_u8s, lv8])
    | (refine WpC.regP rfl (by decide +kernel) fol (by decide +kernel) (by decide +kernel) ?_; simp -implicitDefEqProofs -dsimp [-List.map_set, -List.map_append, -List.map_replicate, fold_int, fold_ints, fold_u8, fold_u8s, lv8])
    | (refine WpC.regI dr8 rfl rfl (by decide +kernel) fol ?_; simp -implicitDefEqProofs -dsimp [dr8, -List.map_set, -List.map_append, -List.map_replicate, fold_int, fold_ints, fold_u8, fold_u8s, lv8])
    | (refine WpC.regM dm8 rfl rfl (by decide +kernel) fol ?_; simp -implicitDefEqProofs -dsimp [dm8, -List.map_set, -List.map_append, -List.map_replicate, fold_int, fold_ints, fold_u8, fold_u8s, lv8])
    | (refine WpC.regQ dq8 rfl rfl (by decide +kernel) fol ?_; simp -implicitDefEqProofs -dsimp [dq8, -List.map_set, -List.map_append, -List.map_replicate, fold_int, fold_ints, fold_u8, fold_u8s, lv8])
    | (refine WpC.skipC rfl ?_; try simp -implicitDefEqProofs -dsimp [-List.map_set, -List.map_append, -List.map_replicate, fold_int, fold_ints, fold_u8, fold_u8s, lv8])
    | (refine WpC.retC rfl ?_; try simp -implicitDefEqProofs -dsimp [-List.map_set, -List.map_append, -List.map_replicate, fold_int, fold_ints, fold_u8, fold_u8s, lv8])
    | (refine WpC.exitC rfl ?_; try simp -implicitDefEqProofs -dsimp [-List.map_set, -List.map_append, -List.map_replicate, fold_int, fold_ints, fold_u8, fold_u8s, lv8])
    | (refine WpC.condK rfl ?_; simp -implicitDefEqProofs -dsimp [-List.map_set, -List.map_append, -List.map_replicate, fold_int, fold_ints, fold_u8, fold_u8s, lv8])
    | with_reducible refine And.intro (fun _ => ?_) (fun _ => ?_)
    | (with_reducible refine And.intro (by omega) ?_))
  refine CallX.by4 (Done [0, 0, 0] 2) false [] 6 (by simp) (by simp) (by simp) (by simp -implicitDefEqProofs [-List.map_set, -List.map_append, -List.map_replicate, fold_int, fold_ints, fold_u8, fold_u8s, rs, rsOb, List.idxOf?_cons, e0, f1, f2, f3, c1, c2, c3, c4, c5, c6, w0]) (by simp -implicitDefEqProofs [-List.map_set, -List.map_append, -List.map_replicate, fold_int, fold_ints, fold_u8, fold_u8s, rs, rsOb, List.idxOf?_cons, e0, f1, f2, f3, c1, c2, c3, c4, c5, c6, w0]) ?_; rintro m T' ⟨rfl, rfl⟩ -; simp -implicitDefEqProofs -dsimp [-List.map_set, -List.map_append, -List.map_replicate, fold_int, fold_ints, fold_u8, fold_u8s, frOb, obMp, setAll, setOb, gMap, lv8, e0, f1, f2, f3, c1, c2, c3, c4, c5, c6, w0]
  repeat' (first
    | refine WpC.seqC lv8 rfl ?_
    | refine WpC.blockC rfl ?_
    | (refine WpC.reg rfl rfl ?_; simp -implicitDefEqProofs -dsimp [-List.map_set, -List.map_append, -List.map_replicate, fold_int, fold_ints, fold_u8, fold_u8s, lv8])
    | (refine WpC.regP rfl (by decide +kernel) fol (by decide +kernel) (by decide +kernel) ?_; simp -implicitDefEqProofs -dsimp [-List.map_set, -List.map_append, -List.map_replicate, fold_int, fold_ints, fold_u8, fold_u8s, lv8])
    | (refine WpC.regI dr8 rfl rfl (by decide +kernel) fol ?_; simp -implicitDefEqProofs -dsimp [dr8, -List.map_set, -List.map_append, -List.map_replicate, fold_int, fold_ints, fold_u8, fold_u8s, lv8])
    | (refine WpC.regM dm8 rfl rfl (by decide +kernel) fol ?_; simp -implicitDefEqProofs -dsimp [dm8, -List.map_set, -List.map_append, -List.map_replicate, fold_int, fold_ints, fold_u8, fold_u8s, lv8])
    | (refine WpC.regQ dq8 rfl rfl (by decide +kernel) fol ?_; simp -implicitDefEqProofs -dsimp [dq8, -List.map_set, -List.map_append, -List.map_replicate, fold_int, fold_ints, fold_u8, fold_u8s, lv8])
    | (refine WpC.skipC rfl ?_; try simp -implicitDefEqProofs -dsimp [-List.map_set, -List.map_append, -List.map_replicate, fold_int, fold_ints, fold_u8, fold_u8s, lv8])
    | (refine WpC.retC rfl ?_; try simp -implicitDefEqProofs -dsimp [-List.map_set, -List.map_append, -List.map_replicate, fold_int, fold_ints, fold_u8, fold_u8s, lv8])
    | (refine WpC.exitC rfl ?_; try simp -implicitDefEqProofs -dsimp [-List.map_set, -List.map_append, -List.map_replicate, fold_int, fold_ints, fold_u8, fold_u8s, lv8])
    | (refine WpC.condK rfl ?_; simp -implicitDefEqProofs -dsimp [-List.map_set, -List.map_append, -List.map_replicate, fold_int, fold_ints, fold_u8, fold_u8s, lv8])
    | with_reducible refine And.intro (fun _ => ?_) (fun _ => ?_)
    | (with_reducible refine And.intro (by omega) ?_))
  refine CallX.by4 (Yes [1, 1] [0, 0, 0] 2 (by decide) (by decide)) false [1, 0] 6 (by simp) (by simp) (by simp) (by simp -implicitDefEqProofs [-List.map_set, -List.map_append, -List.map_replicate, fold_int, fold_ints, fold_u8, fold_u8s, rs, rsOb, List.idxOf?_cons, e0, f1, f2, f3, c1, c2, c3, c4, c5, c6, w0]) (by simp -implicitDefEqProofs [-List.map_set, -List.map_append, -List.map_replicate, fold_int, fold_ints, fold_u8, fold_u8s, rs, rsOb, List.idxOf?_cons, e0, f1, f2, f3, c1, c2, c3, c4, c5, c6, w0]) ?_; rintro m T' ⟨rfl, rfl⟩ -; simp -implicitDefEqProofs -dsimp [-List.map_set, -List.map_append, -List.map_replicate, fold_int, fold_ints, fold_u8, fold_u8s, frOb, obMp, setAll, setOb, gMap, lv8, e0, f1, f2, f3, c1, c2, c3, c4, c5, c6, w0]
  repeat' (first
    | refine WpC.seqC lv8 rfl ?_
    | refine WpC.blockC rfl ?_
    | (refine WpC.reg rfl rfl ?_; simp -implicitDefEqProofs -dsimp [-List.map_set, -List.map_append, -List.map_replicate, fold_int, fold_ints, fold_u8, fold_u8s, lv8, e0, f1, f2, f3, c1, c2, c3, c4, c5, c6, w0])
    | (refine WpC.regP rfl (by decide +kernel) fol (by decide +kernel) (by decide +kernel) ?_; simp -implicitDefEqProofs -dsimp [-List.map_set, -List.map_append, -List.map_replicate, fold_int, fold_ints, fold_u8, fold_u8s, lv8, e0, f1, f2, f3, c1, c2, c3, c4, c5, c6, w0])
    | (refine WpC.regI dr8 rfl rfl (by decide +kernel) fol ?_; simp -implicitDefEqProofs -dsimp [dr8, -List.map_set, -List.map_append, -List.map_replicate, fold_int, fold_ints, fold_u8, fold_u8s, lv8, e0, f1, f2, f3, c1, c2, c3, c4, c5, c6, w0])
    | (refine WpC.regM dm8 rfl rfl (by decide +kernel) fol ?_; simp -implicitDefEqProofs -dsimp [dm8, -List.map_set, -List.map_append, -List.map_replicate, fold_int, fold_ints, fold_u8, fold_u8s, lv8, e0, f1, f2, f3, c1, c2, c3, c4, c5, c6, w0])
    | (refine WpC.regQ dq8 rfl rfl (by decide +kernel) fol ?_; simp -implicitDefEqProofs -dsimp [dq8, -List.map_set, -List.map_append, -List.map_replicate, fold_int, fold_ints, fold_u8, fold_u8s, lv8, e0, f1, f2, f3, c1, c2, c3, c4, c5, c6, w0])
    | (refine WpC.skipC rfl ?_; try simp -implicitDefEqProofs -dsimp [-List.map_set, -List.map_append, -List.map_replicate, fold_int, fold_ints, fold_u8, fold_u8s, lv8, e0, f1, f2, f3, c1, c2, c3, c4, c5, c6, w0])
    | (refine WpC.retC rfl ?_; try simp -implicitDefEqProofs -dsimp [-List.map_set, -List.map_append, -List.map_replicate, fold_int, fold_ints, fold_u8, fold_u8s, lv8, e0, f1, f2, f3, c1, c2, c3, c4, c5, c6, w0])
    | (refine WpC.exitC rfl ?_; try simp -implicitDefEqProofs -dsimp [-List.map_set, -List.map_append, -List.map_replicate, fold_int, fold_ints, fold_u8, fold_u8s, lv8, e0, f1, f2, f3, c1, c2, c3, c4, c5, c6, w0])
    | (refine WpC.condK rfl ?_; simp -implicitDefEqProofs -dsimp [-List.map_set, -List.map_append, -List.map_replicate, fold_int, fold_ints, fold_u8, fold_u8s, lv8, e0, f1, f2, f3, c1, c2, c3, c4, c5, c6, w0])
    | with_reducible refine And.intro (fun _ => ?_) (fun _ => ?_)
    | (with_reducible refine And.intro (by omega) ?_))
  refine CallX.by4 (No [0] [0, 1, 0] 2 (by decide) (by decide)) false [1, 0] 6 (by simp) (by simp) (by simp) (by simp -implicitDefEqProofs [-List.map_set, -List.map_append, -List.map_replicate, fold_int, fold_ints, fold_u8, fold_u8s, rs, rsOb, List.idxOf?_cons, e0, f1, f2, f3, c1, c2, c3, c4, c5, c6, w0]) (by simp -implicitDefEqProofs [-List.map_set, -List.map_append, -List.map_replicate, fold_int, fold_ints, fold_u8, fold_u8s, rs, rsOb, List.idxOf?_cons, e0, f1, f2, f3, c1, c2, c3, c4, c5, c6, w0]) ?_; rintro m T' ⟨rfl, rfl⟩ -; simp -implicitDefEqProofs -dsimp [-List.map_set, -List.map_append, -List.map_replicate, fold_int, fold_ints, fold_u8, fold_u8s, frOb, obMp, setAll, setOb, gMap, lv8, e0, f1, f2, f3, c1, c2, c3, c4, c5, c6, w0]
  repeat' (first
    | refine WpC.seqC lv8 rfl ?_
    | refine WpC.blockC rfl ?_
    | (refine WpC.reg rfl rfl ?_; simp -implicitDefEqProofs -dsimp [-List.map_set, -List.map_append, -List.map_replicate, fold_int, fold_ints, fold_u8, fold_u8s, lv8, e0, f1, f2, f3, c1, c2, c3, c4, c5, c6, w0])
    | (refine WpC.regP rfl (by decide +kernel) fol (by decide +kernel) (by decide +kernel) ?_; simp -implicitDefEqProofs -dsimp [-List.map_set, -List.map_append, -List.map_replicate, fold_int, fold_ints, fold_u8, fold_u8s, lv8, e0, f1, f2, f3, c1, c2, c3, c4, c5, c6, w0])
    | (refine WpC.regI dr8 rfl rfl (by decide +kernel) fol ?_; simp -implicitDefEqProofs -dsimp [dr8, -List.map_set, -List.map_append, -List.map_replicate, fold_int, fold_ints, fold_u8, fold_u8s, lv8, e0, f1, f2, f3, c1, c2, c3, c4, c5, c6, w0])
    | (refine WpC.regM dm8 rfl rfl (by decide +kernel) fol ?_; simp -implicitDefEqProofs -dsimp [dm8, -List.map_set, -List.map_append, -List.map_replicate, fold_int, fold_ints, fold_u8, fold_u8s, lv8, e0, f1, f2, f3, c1, c2, c3, c4, c5, c6, w0])
    | (refine WpC.regQ dq8 rfl rfl (by decide +kernel) fol ?_; simp -implicitDefEqProofs -dsimp [dq8, -List.map_set, -List.map_append, -List.map_replicate, fold_int, fold_ints, fold_u8, fold_u8s, lv8, e0, f1, f2, f3, c1, c2, c3, c4, c5, c6, w0])
    | (refine WpC.skipC rfl ?_; try simp -implicitDefEqProofs -dsimp [-List.map_set, -List.map_append, -List.map_replicate, fold_int, fold_ints, fold_u8, fold_u8s, lv8, e0, f1, f2, f3, c1, c2, c3, c4, c5, c6, w0])
    | (refine WpC.retC rfl ?_; try simp -implicitDefEqProofs -dsimp [-List.map_set, -List.map_append, -List.map_replicate, fold_int, fold_ints, fold_u8, fold_u8s, lv8, e0, f1, f2, f3, c1, c2, c3, c4, c5, c6, w0])
    | (refine WpC.exitC rfl ?_; try simp -implicitDefEqProofs -dsimp [-List.map_set, -List.map_append, -List.map_replicate, fold_int, fold_ints, fold_u8, fold_u8s, lv8, e0, f1, f2, f3, c1, c2, c3, c4, c5, c6, w0])
    | (refine WpC.condK rfl ?_; simp -implicitDefEqProofs -dsimp [-List.map_set, -List.map_append, -List.map_replicate, fold_int, fold_ints, fold_u8, fold_u8s, lv8, e0, f1, f2, f3, c1, c2, c3, c4, c5, c6, w0])
    | with_reducible refine And.intro (fun _ => ?_) (fun _ => ?_)
    | (with_reducible refine And.intro (by omega) ?_))
  refine CallX.by4 (Count [2, 1, 0] 2) false [] 6 (by simp) (by simp) (by simp) (by simp -implicitDefEqProofs [-List.map_set, -List.map_append, -List.map_replicate, fold_int, fold_ints, fold_u8, fold_u8s, rs, rsOb, List.idxOf?_cons, e0, f1, f2, f3, c1, c2, c3, c4, c5, c6, w0]) (by simp -implicitDefEqProofs [-List.map_set, -List.map_append, -List.map_replicate, fold_int, fold_ints, fold_u8, fold_u8s, rs, rsOb, List.idxOf?_cons, e0, f1, f2, f3, c1, c2, c3, c4, c5, c6, w0]) ?_; rintro m T' ⟨rfl, rfl⟩ -; simp -implicitDefEqProofs -dsimp [-List.map_set, -List.map_append, -List.map_replicate, fold_int, fold_ints, fold_u8, fold_u8s, frOb, obMp, setAll, setOb, gMap, lv8, e0, f1, f2, f3, c1, c2, c3, c4, c5, c6, w0]
  repeat' (first
    | refine WpC.seqC lv8 rfl ?_
    | refine WpC.blockC rfl ?_
    | (refine WpC.reg rfl rfl ?_; simp -implicitDefEqProofs -dsimp [-List.map_set, -List.map_append, -List.map_replicate, fold_int, fold_ints, fold_u8, fold_u8s, lv8, e0, f1, f2, f3, c1, c2, c3, c4, c5, c6, w0])
    | (refine WpC.regP rfl (by decide +kernel) fol (by decide +kernel) (by decide +kernel) ?_; simp -implicitDefEqProofs -dsimp [-List.map_set, -List.map_append, -List.map_replicate, fold_int, fold_ints, fold_u8, fold_u8s, lv8, e0, f1, f2, f3, c1, c2, c3, c4, c5, c6, w0])
    | (refine WpC.regI dr8 rfl rfl (by decide +kernel) fol ?_; simp -implicitDefEqProofs -dsimp [dr8, -List.map_set, -List.map_append, -List.map_replicate, fold_int, fold_ints, fold_u8, fold_u8s, lv8, e0, f1, f2, f3, c1, c2, c3, c4, c5, c6, w0])
    | (refine WpC.regM dm8 rfl rfl (by decide +kernel) fol ?_; simp -implicitDefEqProofs -dsimp [dm8, -List.map_set, -List.map_append, -List.map_replicate, fold_int, fold_ints, fold_u8, fold_u8s, lv8, e0, f1, f2, f3, c1, c2, c3, c4, c5, c6, w0])
    | (refine WpC.regQ dq8 rfl rfl (by decide +kernel) fol ?_; simp -implicitDefEqProofs -dsimp [dq8, -List.map_set, -List.map_append, -List.map_replicate, fold_int, fold_ints, fold_u8, fold_u8s, lv8, e0, f1, f2, f3, c1, c2, c3, c4, c5, c6, w0])
    | (refine WpC.skipC rfl ?_; try simp -implicitDefEqProofs -dsimp [-List.map_set, -List.map_append, -List.map_replicate, fold_int, fold_ints, fold_u8, fold_u8s, lv8, e0, f1, f2, f3, c1, c2, c3, c4, c5, c6, w0])
    | (refine WpC.retC rfl ?_; try simp -implicitDefEqProofs -dsimp [-List.map_set, -List.map_append, -List.map_replicate, fold_int, fold_ints, fold_u8, fold_u8s, lv8, e0, f1, f2, f3, c1, c2, c3, c4, c5, c6, w0])
    | (refine WpC.exitC rfl ?_; try simp -implicitDefEqProofs -dsimp [-List.map_set, -List.map_append, -List.map_replicate, fold_int, fold_ints, fold_u8, fold_u8s, lv8, e0, f1, f2, f3, c1, c2, c3, c4, c5, c6, w0])
    | (refine WpC.condK rfl ?_; simp -implicitDefEqProofs -dsimp [-List.map_set, -List.map_append, -List.map_replicate, fold_int, fold_ints, fold_u8, fold_u8s, lv8, e0, f1, f2, f3, c1, c2, c3, c4, c5, c6, w0])
    | with_reducible refine And.intro (fun _ => ?_) (fun _ => ?_)
    | (with_reducible refine And.intro (by omega) ?_))
  refine CallX.by4 (Done [2, 1, 0] 2) false [] 6 (by simp) (by simp) (by simp) (by simp -implicitDefEqProofs [-List.map_set, -List.map_append, -List.map_replicate, fold_int, fold_ints, fold_u8, fold_u8s, rs, rsOb, List.idxOf?_cons, e0, f1, f2, f3, c1, c2, c3, c4, c5, c6, w0]) (by simp -implicitDefEqProofs [-List.map_set, -List.map_append, -List.map_replicate, fold_int, fold_ints, fold_u8, fold_u8s, rs, rsOb, List.idxOf?_cons, e0, f1, f2, f3, c1, c2, c3, c4, c5, c6, w0]) ?_; rintro m T' ⟨rfl, rfl⟩ -; simp -implicitDefEqProofs -dsimp [-List.map_set, -List.map_append, -List.map_replicate, fold_int, fold_ints, fold_u8, fold_u8s, frOb, obMp, setAll, setOb, gMap, lv8, e0, f1, f2, f3, c1, c2, c3, c4, c5, c6, w0]
  refine CallX.by4 (Lost [2, 1, 0] 2 (by decide)) false [] 6 (by simp) (by simp) (by simp) (by simp -implicitDefEqProofs [-List.map_set, -List.map_append, -List.map_replicate, fold_int, fold_ints, fold_u8, fold_u8s, rs, rsOb, List.idxOf?_cons, e0, f1, f2, f3, c1, c2, c3, c4, c5, c6, w0]) (by simp -implicitDefEqProofs [-List.map_set, -List.map_append, -List.map_replicate, fold_int, fold_ints, fold_u8, fold_u8s, rs, rsOb, List.idxOf?_cons, e0, f1, f2, f3, c1, c2, c3, c4, c5, c6, w0]) ?_; rintro m T' ⟨rfl, rfl⟩ -; simp -implicitDefEqProofs -dsimp [-List.map_set, -List.map_append, -List.map_replicate, fold_int, fold_ints, fold_u8, fold_u8s, frOb, obMp, setAll, setOb, gMap, lv8, e0, f1, f2, f3, c1, c2, c3, c4, c5, c6, w0]
  refine CallX.by4 (Waiting [2, 1, 0] 2 (by decide)) false [] 6 (by simp) (by simp) (by simp) (by simp -implicitDefEqProofs [-List.map_set, -List.map_append, -List.map_replicate, fold_int, fold_ints, fold_u8, fold_u8s, rs, rsOb, List.idxOf?_cons, e0, f1, f2, f3, c1, c2, c3, c4, c5, c6, w0]) (by simp -implicitDefEqProofs [-List.map_set, -List.map_append, -List.map_replicate, fold_int, fold_ints, fold_u8, fold_u8s, rs, rsOb, List.idxOf?_cons, e0, f1, f2, f3, c1, c2, c3, c4, c5, c6, w0]) ?_; rintro m T' ⟨rfl, rfl⟩ -; simp -implicitDefEqProofs -dsimp [-List.map_set, -List.map_append, -List.map_replicate, fold_int, fold_ints, fold_u8, fold_u8s, frOb, obMp, setAll, setOb, gMap, lv8, e0, f1, f2, f3, c1, c2, c3, c4, c5, c6, w0]
  refine CallX.by4 (SameInts [2] [2] (by decide)) false [] 6 (by simp) (by simp) (by simp) (by simp -implicitDefEqProofs [-List.map_set, -List.map_append, -List.map_replicate, fold_int, fold_ints, fold_u8, fold_u8s, rs, rsOb, List.idxOf?_cons, e0, f1, f2, f3, c1, c2, c3, c4, c5, c6, w0]) (by simp -implicitDefEqProofs [-List.map_set, -List.map_append, -List.map_replicate, fold_int, fold_ints, fold_u8, fold_u8s, rs, rsOb, List.idxOf?_cons, e0, f1, f2, f3, c1, c2, c3, c4, c5, c6, w0]) ?_; rintro m T' ⟨rfl, rfl⟩ -; simp -implicitDefEqProofs -dsimp [-List.map_set, -List.map_append, -List.map_replicate, fold_int, fold_ints, fold_u8, fold_u8s, frOb, obMp, setAll, setOb, gMap, lv8, e0, f1, f2, f3, c1, c2, c3, c4, c5, c6, w0]
  repeat' (first
    | refine WpC.seqC lv8 rfl ?_
    | refine WpC.blockC rfl ?_
    | (refine WpC.reg rfl rfl ?_; simp -implicitDefEqProofs -dsimp [-List.map_set, -List.map_append, -List.map_replicate, fold_int, fold_ints, fold_u8, fold_u8s, lv8, e0, f1, f2, f3, c1, c2, c3, c4, c5, c6, w0])
    | (refine WpC.regP rfl (by decide +kernel) fol (by decide +kernel) (by decide +kernel) ?_; simp -implicitDefEqProofs -dsimp [-List.map_set, -List.map_append, -List.map_replicate, fold_int, fold_ints, fold_u8, fold_u8s, lv8, e0, f1, f2, f3, c1, c2, c3, c4, c5, c6, w0])
    | (refine WpC.regI dr8 rfl rfl (by decide +kernel) fol ?_; simp -implicitDefEqProofs -dsimp [dr8, -List.map_set, -List.map_append, -List.map_replicate, fold_int, fold_ints, fold_u8, fold_u8s, lv8, e0, f1, f2, f3, c1, c2, c3, c4, c5, c6, w0])
    | (refine WpC.regM dm8 rfl rfl (by decide +kernel) fol ?_; simp -implicitDefEqProofs -dsimp [dm8, -List.map_set, -List.map_append, -List.map_replicate, fold_int, fold_ints, fold_u8, fold_u8s, lv8, e0, f1, f2, f3, c1, c2, c3, c4, c5, c6, w0])
    | (refine WpC.regQ dq8 rfl rfl (by decide +kernel) fol ?_; simp -implicitDefEqProofs -dsimp [dq8, -List.map_set, -List.map_append, -List.map_replicate, fold_int, fold_ints, fold_u8, fold_u8s, lv8, e0, f1, f2, f3, c1, c2, c3, c4, c5, c6, w0])
    | (refine WpC.skipC rfl ?_; try simp -implicitDefEqProofs -dsimp [-List.map_set, -List.map_append, -List.map_replicate, fold_int, fold_ints, fold_u8, fold_u8s, lv8, e0, f1, f2, f3, c1, c2, c3, c4, c5, c6, w0])
    | (refine WpC.retC rfl ?_; try simp -implicitDefEqProofs -dsimp [-List.map_set, -List.map_append, -List.map_replicate, fold_int, fold_ints, fold_u8, fold_u8s, lv8, e0, f1, f2, f3, c1, c2, c3, c4, c5, c6, w0])
    | (refine WpC.exitC rfl ?_; try simp -implicitDefEqProofs -dsimp [-List.map_set, -List.map_append, -List.map_replicate, fold_int, fold_ints, fold_u8, fold_u8s, lv8, e0, f1, f2, f3, c1, c2, c3, c4, c5, c6, w0])
    | (refine WpC.condK rfl ?_; simp -implicitDefEqProofs -dsimp [-List.map_set, -List.map_append, -List.map_replicate, fold_int, fold_ints, fold_u8, fold_u8s, lv8, e0, f1, f2, f3, c1, c2, c3, c4, c5, c6, w0])
    | with_reducible refine And.intro (fun _ => ?_) (fun _ => ?_)
    | (with_reducible refine And.intro (by omega) ?_))
  refine CallX.by4 (Yes [2] [2, 1, 0] 2 (by decide) (by decide)) false [1, 0] 6 (by simp) (by simp) (by simp) (by simp -implicitDefEqProofs [-List.map_set, -List.map_append, -List.map_replicate, fold_int, fold_ints, fold_u8, fold_u8s, rs, rsOb, List.idxOf?_cons, e0, f1, f2, f3, c1, c2, c3, c4, c5, c6, w0]) (by simp -implicitDefEqProofs [-List.map_set, -List.map_append, -List.map_replicate, fold_int, fold_ints, fold_u8, fold_u8s, rs, rsOb, List.idxOf?_cons, e0, f1, f2, f3, c1, c2, c3, c4, c5, c6, w0]) ?_; rintro m T' ⟨rfl, rfl⟩ -; simp -implicitDefEqProofs -dsimp [-List.map_set, -List.map_append, -List.map_replicate, fold_int, fold_ints, fold_u8, fold_u8s, frOb, obMp, setAll, setOb, gMap, lv8, e0, f1, f2, f3, c1, c2, c3, c4, c5, c6, w0]
  repeat' (first
    | refine WpC.seqC lv8 rfl ?_
    | refine WpC.blockC rfl ?_
    | (refine WpC.reg rfl rfl ?_; simp -implicitDefEqProofs -dsimp [-List.map_set, -List.map_append, -List.map_replicate, fold_int, fold_ints, fold_u8, fold_u8s, lv8, e0, f1, f2, f3, c1, c2, c3, c4, c5, c6, w0])
    | (refine WpC.regP rfl (by decide +kernel) fol (by decide +kernel) (by decide +kernel) ?_; simp -implicitDefEqProofs -dsimp [-List.map_set, -List.map_append, -List.map_replicate, fold_int, fold_ints, fold_u8, fold_u8s, lv8, e0, f1, f2, f3, c1, c2, c3, c4, c5, c6, w0])
    | (refine WpC.regI dr8 rfl rfl (by decide +kernel) fol ?_; simp -implicitDefEqProofs -dsimp [dr8, -List.map_set, -List.map_append, -List.map_replicate, fold_int, fold_ints, fold_u8, fold_u8s, lv8, e0, f1, f2, f3, c1, c2, c3, c4, c5, c6, w0])
    | (refine WpC.regM dm8 rfl rfl (by decide +kernel) fol ?_; simp -implicitDefEqProofs -dsimp [dm8, -List.map_set, -List.map_append, -List.map_replicate, fold_int, fold_ints, fold_u8, fold_u8s, lv8, e0, f1, f2, f3, c1, c2, c3, c4, c5, c6, w0])
    | (refine WpC.regQ dq8 rfl rfl (by decide +kernel) fol ?_; simp -implicitDefEqProofs -dsimp [dq8, -List.map_set, -List.map_append, -List.map_replicate, fold_int, fold_ints, fold_u8, fold_u8s, lv8, e0, f1, f2, f3, c1, c2, c3, c4, c5, c6, w0])
    | (refine WpC.skipC rfl ?_; try simp -implicitDefEqProofs -dsimp [-List.map_set, -List.map_append, -List.map_replicate, fold_int, fold_ints, fold_u8, fold_u8s, lv8, e0, f1, f2, f3, c1, c2, c3, c4, c5, c6, w0])
    | (refine WpC.retC rfl ?_; try simp -implicitDefEqProofs -dsimp [-List.map_set, -List.map_append, -List.map_replicate, fold_int, fold_ints, fold_u8, fold_u8s, lv8, e0, f1, f2, f3, c1, c2, c3, c4, c5, c6, w0])
    | (refine WpC.exitC rfl ?_; try simp -implicitDefEqProofs -dsimp [-List.map_set, -List.map_append, -List.map_replicate, fold_int, fold_ints, fold_u8, fold_u8s, lv8, e0, f1, f2, f3, c1, c2, c3, c4, c5, c6, w0])
    | (refine WpC.condK rfl ?_; simp -implicitDefEqProofs -dsimp [-List.map_set, -List.map_append, -List.map_replicate, fold_int, fold_ints, fold_u8, fold_u8s, lv8, e0, f1, f2, f3, c1, c2, c3, c4, c5, c6, w0])
    | with_reducible refine And.intro (fun _ => ?_) (fun _ => ?_)
    | (with_reducible refine And.intro (by omega) ?_))
  refine CallX.by4 (Done [2, 1, 1] 2) false [] 6 (by simp) (by simp) (by simp) (by simp -implicitDefEqProofs [-List.map_set, -List.map_append, -List.map_replicate, fold_int, fold_ints, fold_u8, fold_u8s, rs, rsOb, List.idxOf?_cons, e0, f1, f2, f3, c1, c2, c3, c4, c5, c6, w0]) (by simp -implicitDefEqProofs [-List.map_set, -List.map_append, -List.map_replicate, fold_int, fold_ints, fold_u8, fold_u8s, rs, rsOb, List.idxOf?_cons, e0, f1, f2, f3, c1, c2, c3, c4, c5, c6, w0]) ?_; rintro m T' ⟨rfl, rfl⟩ -; simp -implicitDefEqProofs -dsimp [-List.map_set, -List.map_append, -List.map_replicate, fold_int, fold_ints, fold_u8, fold_u8s, frOb, obMp, setAll, setOb, gMap, lv8, e0, f1, f2, f3, c1, c2, c3, c4, c5, c6, w0]
  refine CallX.by4 (Lost [2, 1, 1] 2 (by decide)) false [] 6 (by simp) (by simp) (by simp) (by simp -implicitDefEqProofs [-List.map_set, -List.map_append, -List.map_replicate, fold_int, fold_ints, fold_u8, fold_u8s, rs, rsOb, List.idxOf?_cons, e0, f1, f2, f3, c1, c2, c3, c4, c5, c6, w0]) (by simp -implicitDefEqProofs [-List.map_set, -List.map_append, -List.map_replicate, fold_int, fold_ints, fold_u8, fold_u8s, rs, rsOb, List.idxOf?_cons, e0, f1, f2, f3, c1, c2, c3, c4, c5, c6, w0]) ?_; rintro m T' ⟨rfl, rfl⟩ -; simp -implicitDefEqProofs -dsimp [-List.map_set, -List.map_append, -List.map_replicate, fold_int, fold_ints, fold_u8, fold_u8s, frOb, obMp, setAll, setOb, gMap, lv8, e0, f1, f2, f3, c1, c2, c3, c4, c5, c6, w0]
  repeat' (first
    | refine WpC.seqC lv8 rfl ?_
    | refine WpC.blockC rfl ?_
    | (refine WpC.reg rfl rfl ?_; simp -implicitDefEqProofs -dsimp [-List.map_set, -List.map_append, -List.map_replicate, fold_int, fold_ints, fold_u8, fold_u8s, lv8, e0, f1, f2, f3, c1, c2, c3, c4, c5, c6, w0])
    | (refine WpC.regP rfl (by decide +kernel) fol (by decide +kernel) (by decide +kernel) ?_; simp -implicitDefEqProofs -dsimp [-List.map_set, -List.map_append, -List.map_replicate, fold_int, fold_ints, fold_u8, fold_u8s, lv8, e0, f1, f2, f3, c1, c2, c3, c4, c5, c6, w0])
    | (refine WpC.regI dr8 rfl rfl (by decide +kernel) fol ?_; simp -implicitDefEqProofs -dsimp [dr8, -List.map_set, -List.map_append, -List.map_replicate, fold_int, fold_ints, fold_u8, fold_u8s, lv8, e0, f1, f2, f3, c1, c2, c3, c4, c5, c6, w0])
    | (refine WpC.regM dm8 rfl rfl (by decide +kernel) fol ?_; simp -implicitDefEqProofs -dsimp [dm8, -List.map_set, -List.map_append, -List.map_replicate, fold_int, fold_ints, fold_u8, fold_u8s, lv8, e0, f1, f2, f3, c1, c2, c3, c4, c5, c6, w0])
    | (refine WpC.regQ dq8 rfl rfl (by decide +kernel) fol ?_; simp -implicitDefEqProofs -dsimp [dq8, -List.map_set, -List.map_append, -List.map_replicate, fold_int, fold_ints, fold_u8, fold_u8s, lv8, e0, f1, f2, f3, c1, c2, c3, c4, c5, c6, w0])
    | (refine WpC.skipC rfl ?_; try simp -implicitDefEqProofs -dsimp [-List.map_set, -List.map_append, -List.map_replicate, fold_int, fold_ints, fold_u8, fold_u8s, lv8, e0, f1, f2, f3, c1, c2, c3, c4, c5, c6, w0])
    | (refine WpC.retC rfl ?_; try simp -implicitDefEqProofs -dsimp [-List.map_set, -List.map_append, -List.map_replicate, fold_int, fold_ints, fold_u8, fold_u8s, lv8, e0, f1, f2, f3, c1, c2, c3, c4, c5, c6, w0])
    | (refine WpC.exitC rfl ?_; try simp -implicitDefEqProofs -dsimp [-List.map_set, -List.map_append, -List.map_replicate, fold_int, fold_ints, fold_u8, fold_u8s, lv8, e0, f1, f2, f3, c1, c2, c3, c4, c5, c6, w0])
    | (refine WpC.condK rfl ?_; simp -implicitDefEqProofs -dsimp [-List.map_set, -List.map_append, -List.map_replicate, fold_int, fold_ints, fold_u8, fold_u8s, lv8, e0, f1, f2, f3, c1, c2, c3, c4, c5, c6, w0])
    | with_reducible refine And.intro (fun _ => ?_) (fun _ => ?_)
    | (with_reducible refine And.intro (by omega) ?_))
  refine (hF [] _ _ (by simp) ?_).1; simp -implicitDefEqProofs -dsimp [-List.map_set, -List.map_append, -List.map_replicate, fold_int, fold_ints, fold_u8, fold_u8s, Try.f8, frzOb, keepT, List.range_succ, keepG, List.idxOf?_cons, obMp, envL]
end Go.Proofs.Ytpbgiccloeihcaa
