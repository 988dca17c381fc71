import Derived.Test.YtpbgiccloeihcaaS
open Go Go.Tl
set_option linter.unusedSimpArgs false
set_option linter.unusedVariables false
set_option linter.unnecessarySimpa false
namespace Go.Proofs.Ytpbgiccloeihcaa

abbrev tre (said : List Int) (need : Int) : M := .ip false [.sl false (said.map int) said.length, int (cnt 0 said), int (cnt 1 said), int (cnt 2 said), int need] 0
theorem CopyInts (xs : List Int) (hx : xs.length ≤ 1000000) :
    Con Try.prog 23 [.sl false (xs.map int) xs.length] [] fun m T' => m = .sl true (xs.map int) xs.length ∧ T' = [] := by
  refine Con.by Try.func23 en23 rfl (by simp [Try.ntmps23]) fun R hR hF hU => ?_; rw [Try.ntmps23]
  repeat' (first
    | refine WpC.seqC lv23 rfl ?_
    | refine WpC.blockC rfl ?_
    | (refine WpC.reg rfl rfl ?_; simp -implicitDefEqProofs -dsimp [-List.map_set, -List.map_append, -List.map_replicate, fold_int, fold_ints, fold_u8, fold_u8s, lv23])
    | (refine WpC.regP rfl (by decide +kernel) fol (by decide +kernel) (by decide +kernel) ?_; simp -implicitDefEqProofs -dsimp [-List.map_set, -List.map_append, -List.map_replicate, fold_int, fold_ints, fold_u8, fold_u8s, lv23])
    | (refine WpC.regI dr23 rfl rfl (by decide +kernel) fol ?_; simp -implicitDefEqProofs -dsimp [dr23, -List.map_set, -List.map_append, -List.map_replicate, fold_int, fold_ints, fold_u8, fold_u8s, lv23])
    | (refine WpC.regM dm23 rfl rfl (by decide +kernel) fol ?_; simp -implicitDefEqProofs -dsimp [dm23, -List.map_set, -List.map_append, -List.map_replicate, fold_int, fold_ints, fold_u8, fold_u8s, lv23])
    | (refine WpC.regQ dq23 rfl rfl (by decide +kernel) fol ?_; simp -implicitDefEqProofs -dsimp [dq23, -List.map_set, -List.map_append, -List.map_replicate, fold_int, fold_ints, fold_u8, fold_u8s, lv23])
    | (refine WpC.skipC rfl ?_; try simp -implicitDefEqProofs -dsimp [-List.map_set, -List.map_append, -List.map_replicate, fold_int, fold_ints, fold_u8, fold_u8s, lv23])
    | (refine WpC.retC rfl ?_; try simp -implicitDefEqProofs -dsimp [-List.map_set, -List.map_append, -List.map_replicate, fold_int, fold_ints, fold_u8, fold_u8s, lv23])
    | (refine WpC.exitC rfl ?_; try simp -implicitDefEqProofs -dsimp [-List.map_set, -List.map_append, -List.map_replicate, fold_int, fold_ints, fold_u8, fold_u8s, lv23])
    | (refine WpC.condK rfl ?_; simp -implicitDefEqProofs -dsimp [-List.map_set, -List.map_append, -List.map_replicate, fold_int, fold_ints, fold_u8, fold_u8s, lv23])
    | with_reducible refine And.intro (fun _ => ?_) (fun _ => ?_)
    | (with_reducible refine And.intro (by omega) ?_))
  refine (hF [1] _ _ (by simp) ?_).1; simp -implicitDefEqProofs -dsimp [-List.map_set, -List.map_append, -List.map_replicate, fold_int, fold_ints, fold_u8, fold_u8s, Try.f23, frzOb, keepT, List.range_succ, keepG, List.idxOf?_cons, obMp, envL]

theorem Count (said : List Int) (need : Int) :
    Con Try.prog 14 [tre said need] [] fun m T' => m = .tup [int (cnt 1 said), int (cnt 2 said)] ∧ T' = [] := by
  refine Con.by Try.func14 en14 rfl (by simp [Try.ntmps14]) fun R hR hF hU => ?_; rw [Try.ntmps14]
  repeat' (first
    | refine WpC.seqC lv14 rfl ?_
    | refine WpC.blockC rfl ?_
    | (refine WpC.reg rfl rfl ?_; simp -implicitDefEqProofs -dsimp [-List.map_set, -List.map_append, -List.map_replicate, fold_int, fold_ints, fold_u8, fold_u8s, lv14])
    | (refine WpC.regP rfl (by decide +kernel) fol (by decide +kernel) (by decide +kernel) ?_; simp -implicitDefEqProofs -dsimp [-List.map_set, -List.map_append, -List.map_replicate, fold_int, fold_ints, fold_u8, fold_u8s, lv14])
    | (refine WpC.regI dr14 rfl rfl (by decide +kernel) fol ?_; simp -implicitDefEqProofs -dsimp [dr14, -List.map_set, -List.map_append, -List.map_replicate, fold_int, fold_ints, fold_u8, fold_u8s, lv14])
    | (refine WpC.regM dm14 rfl rfl (by decide +kernel) fol ?_; simp -implicitDefEqProofs -dsimp [dm14, -List.map_set, -List.map_append, -List.map_replicate, fold_int, fold_ints, fold_u8, fold_u8s, lv14])
    | (refine WpC.regQ dq14 rfl rfl (by decide +kernel) fol ?_; simp -implicitDefEqProofs -dsimp [dq14, -List.map_set, -List.map_append, -List.map_replicate, fold_int, fold_ints, fold_u8, fold_u8s, lv14])
    | (refine WpC.skipC rfl ?_; try simp -implicitDefEqProofs -dsimp [-List.map_set, -List.map_append, -List.map_replicate, fold_int, fold_ints, fold_u8, fold_u8s, lv14])
    | (refine WpC.retC rfl ?_; try simp -implicitDefEqProofs -dsimp [-List.map_set, -List.map_append, -List.map_replicate, fold_int, fold_ints, fold_u8, fold_u8s, lv14])
    | (refine WpC.exitC rfl ?_; try simp -implicitDefEqProofs -dsimp [-List.map_set, -List.map_append, -List.map_replicate, fold_int, fold_ints, fold_u8, fold_u8s, lv14])
    | (refine WpC.condK rfl ?_; simp -implicitDefEqProofs -dsimp [-List.map_set, -List.map_append, -List.map_replicate, fold_int, fold_ints, fold_u8, fold_u8s, lv14])
    | with_reducible refine And.intro (fun _ => ?_) (fun _ => ?_)
    | (with_reducible refine And.intro (by omega) ?_))
  refine (hR _ _ ?_).1; simp -implicitDefEqProofs -dsimp [-List.map_set, -List.map_append, -List.map_replicate, fold_int, fold_ints, fold_u8, fold_u8s, Try.f14, envL]

theorem Done (said : List Int) (need : Int) :
    Con Try.prog 16 [tre said need] [] fun m T' => m = .v (.bool (decide (need ≤ cnt 1 said))) ∧ T' = [] := by
  refine Con.by Try.func16 en16 rfl (by simp [Try.ntmps16]) fun R hR hF hU => ?_; rw [Try.ntmps16]
  repeat' (first
    | refine WpC.seqC lv16 rfl ?_
    | refine WpC.blockC rfl ?_
    | (refine WpC.reg rfl rfl ?_; simp -implicitDefEqProofs -dsimp [-List.map_set, -List.map_append, -List.map_replicate, fold_int, fold_ints, fold_u8, fold_u8s, lv16])
    | (refine WpC.regP rfl (by decide +kernel) fol (by decide +kernel) (by decide +kernel) ?_; simp -implicitDefEqProofs -dsimp [-List.map_set, -List.map_append, -List.map_replicate, fold_int, fold_ints, fold_u8, fold_u8s, lv16])
    | (refine WpC.regI dr16 rfl rfl (by decide +kernel) fol ?_; simp -implicitDefEqProofs -dsimp [dr16, -List.map_set, -List.map_append, -List.map_replicate, fold_int, fold_ints, fold_u8, fold_u8s, lv16])
    | (refine WpC.regM dm16 rfl rfl (by decide +kernel) fol ?_; simp -implicitDefEqProofs -dsimp [dm16, -List.map_set, -List.map_append, -List.map_replicate, fold_int, fold_ints, fold_u8, fold_u8s, lv16])
    | (refine WpC.regQ dq16 rfl rfl (by decide +kernel) fol ?_; simp -implicitDefEqProofs -dsimp [dq16, -List.map_set, -List.map_append, -List.map_replicate, fold_int, fold_ints, fold_u8, fold_u8s, lv16])
    | (refine WpC.skipC rfl ?_; try simp -implicitDefEqProofs -dsimp [-List.map_set, -List.map_append, -List.map_replicate, fold_int, fold_ints, fold_u8, fold_u8s, lv16])
    | (refine WpC.retC rfl ?_; try simp -implicitDefEqProofs -dsimp [-List.map_set, -List.map_append, -List.map_replicate, fold_int, fold_ints, fold_u8, fold_u8s, lv16])
    | (refine WpC.exitC rfl ?_; try simp -implicitDefEqProofs -dsimp [-List.map_set, -List.map_append, -List.map_replicate, fold_int, fold_ints, fold_u8, fold_u8s, lv16])
    | (refine WpC.condK rfl ?_; simp -implicitDefEqProofs -dsimp [-List.map_set, -List.map_append, -List.map_replicate, fold_int, fold_ints, fold_u8, fold_u8s, lv16])
    | with_reducible refine And.intro (fun _ => ?_) (fun _ => ?_)
    | (with_reducible refine And.intro (by omega) ?_))
  refine (hR _ _ ?_).1; simp -implicitDefEqProofs -dsimp [-List.map_set, -List.map_append, -List.map_replicate, fold_int, fold_ints, fold_u8, fold_u8s, Try.f16, envL]

/-- The places of those that have said this. -/
def whr (k : Int) (said : List Int) : List Int := (List.range said.length).filterMap fun i => if rd said i = k then some (i : Int) else none

def whrTo (k : Int) (said : List Int) (j : Nat) : List Int := (List.range j).filterMap fun i => if rd said i = k then some (i : Int) else none
theorem whrTo_succ (k : Int) (said : List Int) (j : Nat) : whrTo k said (j + 1) = if rd said j = k then whrTo k said j ++ [(j : Int)] else whrTo k said j := by
  unfold whrTo
  rw [List.range_succ, List.filterMap_append]
  by_cases h : rd said j = k <;> simp [h]
theorem whrTo_le (k : Int) (said : List Int) (j : Nat) : (whrTo k said j).length ≤ j := by
  unfold whrTo
  have := List.length_filterMap_le (fun i => if rd said i = k then some (i : Int) else none) (List.range j)
  simpa using this

theorem Of (said : List Int) (need what : Int) (h8 : said.length ≤ 8) :
    Con Try.prog 15 [.agg [.sl false (said.map int) said.length, int need], int what] [] fun m T' => m = .sl true ((whr what said).map int) (whr what said).length ∧ T' = [] := by
  refine Con.by Try.func15 en15 rfl (by simp [Try.ntmps15]) fun R hR hF hU => ?_; rw [Try.ntmps15]
  repeat' (first
    | refine WpC.seqC lv15 rfl ?_
    | refine WpC.blockC rfl ?_
    | (refine WpC.reg rfl rfl ?_; simp -implicitDefEqProofs -dsimp [-List.map_set, -List.map_append, -List.map_replicate, fold_int, fold_ints, fold_u8, fold_u8s, lv15])
    | (refine WpC.regP rfl (by decide +kernel) fol (by decide +kernel) (by decide +kernel) ?_; simp -implicitDefEqProofs -dsimp [-List.map_set, -List.map_append, -List.map_replicate, fold_int, fold_ints, fold_u8, fold_u8s, lv15])
    | (refine WpC.regI dr15 rfl rfl (by decide +kernel) fol ?_; simp -implicitDefEqProofs -dsimp [dr15, -List.map_set, -List.map_append, -List.map_replicate, fold_int, fold_ints, fold_u8, fold_u8s, lv15])
    | (refine WpC.regM dm15 rfl rfl (by decide +kernel) fol ?_; simp -implicitDefEqProofs -dsimp [dm15, -List.map_set, -List.map_append, -List.map_replicate, fold_int, fold_ints, fold_u8, fold_u8s, lv15])
    | (refine WpC.regQ dq15 rfl rfl (by decide +kernel) fol ?_; simp -implicitDefEqProofs -dsimp [dq15, -List.map_set, -List.map_append, -List.map_replicate, fold_int, fold_ints, fold_u8, fold_u8s, lv15])
    | (refine WpC.skipC rfl ?_; try simp -implicitDefEqProofs -dsimp [-List.map_set, -List.map_append, -List.map_replicate, fold_int, fold_ints, fold_u8, fold_u8s, lv15])
    | (refine WpC.retC rfl ?_; try simp -implicitDefEqProofs -dsimp [-List.map_set, -List.map_append, -List.map_replicate, fold_int, fold_ints, fold_u8, fold_u8s, lv15])
    | (refine WpC.exitC rfl ?_; try simp -implicitDefEqProofs -dsimp [-List.map_set, -List.map_append, -List.map_replicate, fold_int, fold_ints, fold_u8, fold_u8s, lv15])
    | (refine WpC.condK rfl ?_; simp -implicitDefEqProofs -dsimp [-List.map_set, -List.map_append, -List.map_replicate, fold_int, fold_ints, fold_u8, fold_u8s, lv15])
    | with_reducible refine And.intro (fun _ => ?_) (fun _ => ?_)
    | (with_reducible refine And.intro (by omega) ?_))
  refine WpC.loopC rfl (fun j => j ≤ said.length)
    (fun j => ([(1, int what), (2, .ref 0 0), (5, .sr 1 0 (whrTo what said j).length 1), (6, int j)], [.cells true [.sl false (said.map int) said.length, int need], .cells true ((whrTo what said j).map int)])) (fun j => said.length - j) 0 (by simp) ?_ ?_
  · refine Gh.envL ?_
    simp -implicitDefEqProofs -dsimp [-List.map_set, -List.map_append, -List.map_replicate, fold_int, fold_ints, fold_u8, fold_u8s, obMp, keepG, List.idxOf?_cons, leM, envL, i64w, whrTo]
  · intro j hj R' hR1 hR2
    have hw := whrTo_le what said j
    simp only at hj hR1 ⊢
    repeat' (first
    | refine WpC.seqC lv15 rfl ?_
    | refine WpC.blockC rfl ?_
    | (refine WpC.reg rfl rfl ?_; simp -implicitDefEqProofs -dsimp [-List.map_set, -List.map_append, -List.map_replicate, fold_int, fold_ints, fold_u8, fold_u8s, lv15])
    | (refine WpC.regP rfl (by decide +kernel) fol (by decide +kernel) (by decide +kernel) ?_; simp -implicitDefEqProofs -dsimp [-List.map_set, -List.map_append, -List.map_replicate, fold_int, fold_ints, fold_u8, fold_u8s, lv15])
    | (refine WpC.regI dr15 rfl rfl (by decide +kernel) fol ?_; simp -implicitDefEqProofs -dsimp [dr15, -List.map_set, -List.map_append, -List.map_replicate, fold_int, fold_ints, fold_u8, fold_u8s, lv15])
    | (refine WpC.regM dm15 rfl rfl (by decide +kernel) fol ?_; simp -implicitDefEqProofs -dsimp [dm15, -List.map_set, -List.map_append, -List.map_replicate, fold_int, fold_ints, fold_u8, fold_u8s, lv15])
    | (refine WpC.regQ dq15 rfl rfl (by decide +kernel) fol ?_; simp -implicitDefEqProofs -dsimp [dq15, -List.map_set, -List.map_append, -List.map_replicate, fold_int, fold_ints, fold_u8, fold_u8s, lv15])
    | (refine WpC.skipC rfl ?_; try simp -implicitDefEqProofs -dsimp [-List.map_set, -List.map_append, -List.map_replicate, fold_int, fold_ints, fold_u8, fold_u8s, lv15])
    | (refine WpC.retC rfl ?_; try simp -implicitDefEqProofs -dsimp [-List.map_set, -List.map_append, -List.map_replicate, fold_int, fold_ints, fold_u8, fold_u8s, lv15])
    | (refine WpC.exitC rfl ?_; try simp -implicitDefEqProofs -dsimp [-List.map_set, -List.map_append, -List.map_replicate, fold_int, fold_ints, fold_u8, fold_u8s, lv15])
    | (refine WpC.condK rfl ?_; simp -implicitDefEqProofs -dsimp [-List.map_set, -List.map_append, -List.map_replicate, fold_int, fold_ints, fold_u8, fold_u8s, lv15])
    | with_reducible refine And.intro (fun _ => ?_) (fun _ => ?_)
    | (with_reducible refine And.intro (by omega) ?_))
    · refine hR1 (j + 1) _ _ (by omega) (Gh.round [0, 3] (by simp) (by simp) rfl (by simp -implicitDefEqProofs -dsimp [-List.map_set, -List.map_append, -List.map_replicate, fold_int, fold_ints, fold_u8, fold_u8s, obMp, keepG, List.idxOf?_cons, leM, envL, i64w, whrTo_succ, *] <;> (try simp (disch := omega) only [i64w])) (by simp -implicitDefEqProofs -dsimp [-List.map_set, -List.map_append, -List.map_replicate, fold_int, fold_ints, fold_u8, fold_u8s, obMp, keepG, List.idxOf?_cons, leM, envL, i64w, whrTo_succ, *] <;> (try simp (disch := omega) only [i64w]))) (by omega)
    · refine hR1 (j + 1) _ _ (by omega) (Gh.round [0, 1] (by simp) (by simp) rfl (by simp -implicitDefEqProofs -dsimp [-List.map_set, -List.map_append, -List.map_replicate, fold_int, fold_ints, fold_u8, fold_u8s, obMp, keepG, List.idxOf?_cons, leM, envL, i64w, whrTo_succ, *] <;> (try simp (disch := omega) only [i64w])) (by simp -implicitDefEqProofs -dsimp [-List.map_set, -List.map_append, -List.map_replicate, fold_int, fold_ints, fold_u8, fold_u8s, obMp, keepG, List.idxOf?_cons, leM, envL, i64w, whrTo_succ, *] <;> (try simp (disch := omega) only [i64w]))) (by omega)
    · refine hR2 _ _ _ (by simp) ?_
      simp
      repeat' (first
    | refine WpC.seqC lv15 rfl ?_
    | refine WpC.blockC rfl ?_
    | (refine WpC.reg rfl rfl ?_; simp -implicitDefEqProofs -dsimp [-List.map_set, -List.map_append, -List.map_replicate, fold_int, fold_ints, fold_u8, fold_u8s, lv15])
    | (refine WpC.regP rfl (by decide +kernel) fol (by decide +kernel) (by decide +kernel) ?_; simp -implicitDefEqProofs -dsimp [-List.map_set, -List.map_append, -List.map_replicate, fold_int, fold_ints, fold_u8, fold_u8s, lv15])
    | (refine WpC.regI dr15 rfl rfl (by decide +kernel) fol ?_; simp -implicitDefEqProofs -dsimp [dr15, -List.map_set, -List.map_append, -List.map_replicate, fold_int, fold_ints, fold_u8, fold_u8s, lv15])
    | (refine WpC.regM dm15 rfl rfl (by decide +kernel) fol ?_; simp -implicitDefEqProofs -dsimp [dm15, -List.map_set, -List.map_append, -List.map_replicate, fold_int, fold_ints, fold_u8, fold_u8s, lv15])
    | (refine WpC.regQ dq15 rfl rfl (by decide +kernel) fol ?_; simp -implicitDefEqProofs -dsimp [dq15, -List.map_set, -List.map_append, -List.map_replicate, fold_int, fold_ints, fold_u8, fold_u8s, lv15])
    | (refine WpC.skipC rfl ?_; try simp -implicitDefEqProofs -dsimp [-List.map_set, -List.map_append, -List.map_replicate, fold_int, fold_ints, fold_u8, fold_u8s, lv15])
    | (refine WpC.retC rfl ?_; try simp -implicitDefEqProofs -dsimp [-List.map_set, -List.map_append, -List.map_replicate, fold_int, fold_ints, fold_u8, fold_u8s, lv15])
    | (refine WpC.exitC rfl ?_; try simp -implicitDefEqProofs -dsimp [-List.map_set, -List.map_append, -List.map_replicate, fold_int, fold_ints, fold_u8, fold_u8s, lv15])
    | (refine WpC.condK rfl ?_; simp -implicitDefEqProofs -dsimp [-List.map_set, -List.map_append, -List.map_replicate, fold_int, fold_ints, fold_u8, fold_u8s, lv15])
    | with_reducible refine And.intro (fun _ => ?_) (fun _ => ?_)
    | (with_reducible refine And.intro (by omega) ?_))
      refine (hF [1, 0] _ _ (by simp) ?_).1; simp -implicitDefEqProofs -dsimp [-List.map_set, -List.map_append, -List.map_replicate, fold_int, fold_ints, fold_u8, fold_u8s, Try.f15, frzOb, keepT, List.range_succ, keepG, List.idxOf?_cons, obMp, envL]
      have : j = said.length := by omega
      subst this
      exact ⟨rfl, rfl⟩

theorem Lost (said : List Int) (need : Int) (h8 : said.length ≤ 8) :
    Con Try.prog 18 [tre said need] [] fun m T' => m = .v (.bool (decide (cnt 1 said + cnt 0 said < need))) ∧ T' = [] := by
  refine Con.by Try.func18 en18 rfl (by simp [Try.ntmps18]) fun R hR hF hU => ?_; rw [Try.ntmps18]
  repeat' (first
    | refine WpC.seqC lv18 rfl ?_
    | refine WpC.blockC rfl ?_
    | (refine WpC.reg rfl rfl ?_; simp -implicitDefEqProofs -dsimp [-List.map_set, -List.map_append, -List.map_replicate, fold_int, fold_ints, fold_u8, fold_u8s, lv18])
    | (refine WpC.regP rfl (by decide +kernel) fol (by decide +kernel) (by decide +kernel) ?_; simp -implicitDefEqProofs -dsimp [-List.map_set, -List.map_append, -List.map_replicate, fold_int, fold_ints, fold_u8, fold_u8s, lv18])
    | (refine WpC.regI dr18 rfl rfl (by decide +kernel) fol ?_; simp -implicitDefEqProofs -dsimp [dr18, -List.map_set, -List.map_append, -List.map_replicate, fold_int, fold_ints, fold_u8, fold_u8s, lv18])
    | (refine WpC.regM dm18 rfl rfl (by decide +kernel) fol ?_; simp -implicitDefEqProofs -dsimp [dm18, -List.map_set, -List.map_append, -List.map_replicate, fold_int, fold_ints, fold_u8, fold_u8s, lv18])
    | (refine WpC.regQ dq18 rfl rfl (by decide +kernel) fol ?_; simp -implicitDefEqProofs -dsimp [dq18, -List.map_set, -List.map_append, -List.map_replicate, fold_int, fold_ints, fold_u8, fold_u8s, lv18])
    | (refine WpC.skipC rfl ?_; try simp -implicitDefEqProofs -dsimp [-List.map_set, -List.map_append, -List.map_replicate, fold_int, fold_ints, fold_u8, fold_u8s, lv18])
    | (refine WpC.retC rfl ?_; try simp -implicitDefEqProofs -dsimp [-List.map_set, -List.map_append, -List.map_replicate, fold_int, fold_ints, fold_u8, fold_u8s, lv18])
    | (refine WpC.exitC rfl ?_; try simp -implicitDefEqProofs -dsimp [-List.map_set, -List.map_append, -List.map_replicate, fold_int, fold_ints, fold_u8, fold_u8s, lv18])
    | (refine WpC.condK rfl ?_; simp -implicitDefEqProofs -dsimp [-List.map_set, -List.map_append, -List.map_replicate, fold_int, fold_ints, fold_u8, fold_u8s, lv18])
    | with_reducible refine And.intro (fun _ => ?_) (fun _ => ?_)
    | (with_reducible refine And.intro (by omega) ?_))
  refine (hR _ _ ?_).1; simp -implicitDefEqProofs -dsimp [-List.map_set, -List.map_append, -List.map_replicate, fold_int, fold_ints, fold_u8, fold_u8s, Try.f18, envL]
  have := cnt_lo 0 said
  have := cnt_lo 1 said
  have := cnt_hi 0 said
  have := cnt_hi 1 said
  rw [i64w] <;> omega

theorem Waiting (said : List Int) (need : Int) (h8 : said.length ≤ 8) :
    Con Try.prog 21 [tre said need] [] fun m T' => m = .sl true ((whr 0 said).map int) (whr 0 said).length ∧ T' = [] := by
  refine Con.by Try.func21 en21 rfl (by simp [Try.ntmps21]) fun R hR hF hU => ?_; rw [Try.ntmps21]
  repeat' (first
    | refine WpC.seqC lv21 rfl ?_
    | refine WpC.blockC rfl ?_
    | (refine WpC.reg rfl rfl ?_; simp -implicitDefEqProofs -dsimp [-List.map_set, -List.map_append, -List.map_replicate, fold_int, fold_ints, fold_u8, fold_u8s, lv21])
    | (refine WpC.regP rfl (by decide +kernel) fol (by decide +kernel) (by decide +kernel) ?_; simp -implicitDefEqProofs -dsimp [-List.map_set, -List.map_append, -List.map_replicate, fold_int, fold_ints, fold_u8, fold_u8s, lv21])
    | (refine WpC.regI dr21 rfl rfl (by decide +kernel) fol ?_; simp -implicitDefEqProofs -dsimp [dr21, -List.map_set, -List.map_append, -List.map_replicate, fold_int, fold_ints, fold_u8, fold_u8s, lv21])
    | (refine WpC.regM dm21 rfl rfl (by decide +kernel) fol ?_; simp -implicitDefEqProofs -dsimp [dm21, -List.map_set, -List.map_append, -List.map_replicate, fold_int, fold_ints, fold_u8, fold_u8s, lv21])
    | (refine WpC.regQ dq21 rfl rfl (by decide +kernel) fol ?_; simp -implicitDefEqProofs -dsimp [dq21, -List.map_set, -List.map_append, -List.map_replicate, fold_int, fold_ints, fold_u8, fold_u8s, lv21])
    | (refine WpC.skipC rfl ?_; try simp -implicitDefEqProofs -dsimp [-List.map_set, -List.map_append, -List.map_replicate, fold_int, fold_ints, fold_u8, fold_u8s, lv21])
    | (refine WpC.retC rfl ?_; try simp -implicitDefEqProofs -dsimp [-List.map_set, -List.map_append, -List.map_replicate, fold_int, fold_ints, fold_u8, fold_u8s, lv21])
    | (refine WpC.exitC rfl ?_; try simp -implicitDefEqProofs -dsimp [-List.map_set, -List.map_append, -List.map_replicate, fold_int, fold_ints, fold_u8, fold_u8s, lv21])
    | (refine WpC.condK rfl ?_; simp -implicitDefEqProofs -dsimp [-List.map_set, -List.map_append, -List.map_replicate, fold_int, fold_ints, fold_u8, fold_u8s, lv21])
    | with_reducible refine And.intro (fun _ => ?_) (fun _ => ?_)
    | (with_reducible refine And.intro (by omega) ?_))
  refine WpC.loopC rfl (fun j => j ≤ said.length)
    (fun j => ([(3, .sr 0 0 (whrTo 0 said j).length 1), (9, .sl false (said.map int) said.length), (10, int said.length), (11, int j)], [.cells true ((whrTo 0 said j).map int)])) (fun j => said.length - j) 0 (by simp) ?_ ?_
  · exact Gh.begin 3 1 rfl (by simp [whrTo]) (by simp -implicitDefEqProofs -dsimp [-List.map_set, -List.map_append, -List.map_replicate, fold_int, fold_ints, fold_u8, fold_u8s, obMp, keepG, List.idxOf?_cons, leM, envL, i64w, whrTo])
  · intro j hj R' hR1 hR2
    have hw := whrTo_le 0 said j
    simp only at hj hR1 ⊢
    repeat' (first
    | refine WpC.seqC lv21 rfl ?_
    | refine WpC.blockC rfl ?_
    | (refine WpC.reg rfl rfl ?_; simp -implicitDefEqProofs -dsimp [-List.map_set, -List.map_append, -List.map_replicate, fold_int, fold_ints, fold_u8, fold_u8s, lv21])
    | (refine WpC.regP rfl (by decide +kernel) fol (by decide +kernel) (by decide +kernel) ?_; simp -implicitDefEqProofs -dsimp [-List.map_set, -List.map_append, -List.map_replicate, fold_int, fold_ints, fold_u8, fold_u8s, lv21])
    | (refine WpC.regI dr21 rfl rfl (by decide +kernel) fol ?_; simp -implicitDefEqProofs -dsimp [dr21, -List.map_set, -List.map_append, -List.map_replicate, fold_int, fold_ints, fold_u8, fold_u8s, lv21])
    | (refine WpC.regM dm21 rfl rfl (by decide +kernel) fol ?_; simp -implicitDefEqProofs -dsimp [dm21, -List.map_set, -List.map_append, -List.map_replicate, fold_int, fold_ints, fold_u8, fold_u8s, lv21])
    | (refine WpC.regQ dq21 rfl rfl (by decide +kernel) fol ?_; simp -implicitDefEqProofs -dsimp [dq21, -List.map_set, -List.map_append, -List.map_replicate, fold_int, fold_ints, fold_u8, fold_u8s, lv21])
    | (refine WpC.skipC rfl ?_; try simp -implicitDefEqProofs -dsimp [-List.map_set, -List.map_append, -List.map_replicate, fold_int, fold_ints, fold_u8, fold_u8s, lv21])
    | (refine WpC.retC rfl ?_; try simp -implicitDefEqProofs -dsimp [-List.map_set, -List.map_append, -List.map_replicate, fold_int, fold_ints, fold_u8, fold_u8s, lv21])
    | (refine WpC.exitC rfl ?_; try simp -implicitDefEqProofs -dsimp [-List.map_set, -List.map_append, -List.map_replicate, fold_int, fold_ints, fold_u8, fold_u8s, lv21])
    | (refine WpC.condK rfl ?_; simp -implicitDefEqProofs -dsimp [-List.map_set, -List.map_append, -List.map_replicate, fold_int, fold_ints, fold_u8, fold_u8s, lv21])
    | with_reducible refine And.intro (fun _ => ?_) (fun _ => ?_)
    | (with_reducible refine And.intro (by omega) ?_))
    · refine hR1 (j + 1) _ _ (by omega) (Gh.round [2] (by simp) (by simp) rfl (by simp -implicitDefEqProofs -dsimp [-List.map_set, -List.map_append, -List.map_replicate, fold_int, fold_ints, fold_u8, fold_u8s, obMp, keepG, List.idxOf?_cons, leM, envL, i64w, whrTo_succ, *] <;> (try simp (disch := omega) only [i64w])) (by simp -implicitDefEqProofs -dsimp [-List.map_set, -List.map_append, -List.map_replicate, fold_int, fold_ints, fold_u8, fold_u8s, obMp, keepG, List.idxOf?_cons, leM, envL, i64w, whrTo_succ, *] <;> (try simp (disch := omega) only [i64w]))) (by omega)
    · refine hR1 (j + 1) _ _ (by omega) (Gh.round [0] (by simp) (by simp) rfl (by simp -implicitDefEqProofs -dsimp [-List.map_set, -List.map_append, -List.map_replicate, fold_int, fold_ints, fold_u8, fold_u8s, obMp, keepG, List.idxOf?_cons, leM, envL, i64w, whrTo_succ, *] <;> (try simp (disch := omega) only [i64w])) (by simp -implicitDefEqProofs -dsimp [-List.map_set, -List.map_append, -List.map_replicate, fold_int, fold_ints, fold_u8, fold_u8s, obMp, keepG, List.idxOf?_cons, leM, envL, i64w, whrTo_succ, *] <;> (try simp (disch := omega) only [i64w]))) (by omega)
    · refine hR2 _ _ _ (by simp) ?_
      simp
      repeat' (first
    | refine WpC.seqC lv21 rfl ?_
    | refine WpC.blockC rfl ?_
    | (refine WpC.reg rfl rfl ?_; simp -implicitDefEqProofs -dsimp [-List.map_set, -List.map_append, -List.map_replicate, fold_int, fold_ints, fold_u8, fold_u8s, lv21])
    | (refine WpC.regP rfl (by decide +kernel) fol (by decide +kernel) (by decide +kernel) ?_; simp -implicitDefEqProofs -dsimp [-List.map_set, -List.map_append, -List.map_replicate, fold_int, fold_ints, fold_u8, fold_u8s, lv21])
    | (refine WpC.regI dr21 rfl rfl (by decide +kernel) fol ?_; simp -implicitDefEqProofs -dsimp [dr21, -List.map_set, -List.map_append, -List.map_replicate, fold_int, fold_ints, fold_u8, fold_u8s, lv21])
    | (refine WpC.regM dm21 rfl rfl (by decide +kernel) fol ?_; simp -implicitDefEqProofs -dsimp [dm21, -List.map_set, -List.map_append, -List.map_replicate, fold_int, fold_ints, fold_u8, fold_u8s, lv21])
    | (refine WpC.regQ dq21 rfl rfl (by decide +kernel) fol ?_; simp -implicitDefEqProofs -dsimp [dq21, -List.map_set, -List.map_append, -List.map_replicate, fold_int, fold_ints, fold_u8, fold_u8s, lv21])
    | (refine WpC.skipC rfl ?_; try simp -implicitDefEqProofs -dsimp [-List.map_set, -List.map_append, -List.map_replicate, fold_int, fold_ints, fold_u8, fold_u8s, lv21])
    | (refine WpC.retC rfl ?_; try simp -implicitDefEqProofs -dsimp [-List.map_set, -List.map_append, -List.map_replicate, fold_int, fold_ints, fold_u8, fold_u8s, lv21])
    | (refine WpC.exitC rfl ?_; try simp -implicitDefEqProofs -dsimp [-List.map_set, -List.map_append, -List.map_replicate, fold_int, fold_ints, fold_u8, fold_u8s, lv21])
    | (refine WpC.condK rfl ?_; simp -implicitDefEqProofs -dsimp [-List.map_set, -List.map_append, -List.map_replicate, fold_int, fold_ints, fold_u8, fold_u8s, lv21])
    | with_reducible refine And.intro (fun _ => ?_) (fun _ => ?_)
    | (with_reducible refine And.intro (by omega) ?_))
      refine (hF [0] _ _ (by simp) ?_).1; simp -implicitDefEqProofs -dsimp [-List.map_set, -List.map_append, -List.map_replicate, fold_int, fold_ints, fold_u8, fold_u8s, Try.f21, frzOb, keepT, List.range_succ, keepG, List.idxOf?_cons, obMp, envL]
      have : j = said.length := by omega
      subst this
      exact ⟨rfl, rfl⟩

theorem SameInts (xs ys : List Int) (hx : xs.length ≤ 1000000) :
    Con Try.prog 20 [.sl false (xs.map int) xs.length, .sl false (ys.map int) ys.length] [] fun m T' => m = .v (.bool (decide (xs = ys))) ∧ T' = [] := by
  refine Con.by Try.func20 en20 rfl (by simp [Try.ntmps20]) fun R hR hF hU => ?_; rw [Try.ntmps20]
  repeat' (first
    | refine WpC.seqC lv20 rfl ?_
    | refine WpC.blockC rfl ?_
    | (refine WpC.reg rfl rfl ?_; simp -implicitDefEqProofs -dsimp [-List.map_set, -List.map_append, -List.map_replicate, fold_int, fold_ints, fold_u8, fold_u8s, lv20])
    | (refine WpC.regP rfl (by decide +kernel) fol (by decide +kernel) (by decide +kernel) ?_; simp -implicitDefEqProofs -dsimp [-List.map_set, -List.map_append, -List.map_replicate, fold_int, fold_ints, fold_u8, fold_u8s, lv20])
    | (refine WpC.regI dr20 rfl rfl (by decide +kernel) fol ?_; simp -implicitDefEqProofs -dsimp [dr20, -List.map_set, -List.map_append, -List.map_replicate, fold_int, fold_ints, fold_u8, fold_u8s, lv20])
    | (refine WpC.regM dm20 rfl rfl (by decide +kernel) fol ?_; simp -implicitDefEqProofs -dsimp [dm20, -List.map_set, -List.map_append, -List.map_replicate, fold_int, fold_ints, fold_u8, fold_u8s, lv20])
    | (refine WpC.regQ dq20 rfl rfl (by decide +kernel) fol ?_; simp -implicitDefEqProofs -dsimp [dq20, -List.map_set, -List.map_append, -List.map_replicate, fold_int, fold_ints, fold_u8, fold_u8s, lv20])
    | (refine WpC.skipC rfl ?_; try simp -implicitDefEqProofs -dsimp [-List.map_set, -List.map_append, -List.map_replicate, fold_int, fold_ints, fold_u8, fold_u8s, lv20])
    | (refine WpC.retC rfl ?_; try simp -implicitDefEqProofs -dsimp [-List.map_set, -List.map_append, -List.map_replicate, fold_int, fold_ints, fold_u8, fold_u8s, lv20])
    | (refine WpC.exitC rfl ?_; try simp -implicitDefEqProofs -dsimp [-List.map_set, -List.map_append, -List.map_replicate, fold_int, fold_ints, fold_u8, fold_u8s, lv20])
    | (refine WpC.condK rfl ?_; simp -implicitDefEqProofs -dsimp [-List.map_set, -List.map_append, -List.map_replicate, fold_int, fold_ints, fold_u8, fold_u8s, lv20])
    | with_reducible refine And.intro (fun _ => ?_) (fun _ => ?_)
    | (with_reducible refine And.intro (by omega) ?_))
  · refine (hR _ _ ?_).1; simp -implicitDefEqProofs -dsimp [-List.map_set, -List.map_append, -List.map_replicate, fold_int, fold_ints, fold_u8, fold_u8s, Try.f20, envL]
    rintro rfl
    simp_all
  · rename_i hlen
    have hlen' : xs.length = ys.length := by omega
    refine WpC.loopC rfl (fun j => j ≤ xs.length ∧ ∀ i < j, rd xs i = rd ys i)
      (fun j => ([(0, .sl false (xs.map int) xs.length), (1, .sl false (ys.map int) ys.length), (5, int j)], [])) (fun j => xs.length - j) 0 (by simp) ?_ ?_
    · refine Gh.envL ?_
      simp -implicitDefEqProofs -dsimp [-List.map_set, -List.map_append, -List.map_replicate, fold_int, fold_ints, fold_u8, fold_u8s, obMp, keepG, List.idxOf?_cons, leM, envL, i64w]
    · intro j ⟨hj, hs⟩ R' hR1 hR2
      simp only at hR1 ⊢
      repeat' (first
    | refine WpC.seqC lv20 rfl ?_
    | refine WpC.blockC rfl ?_
    | (refine WpC.reg rfl rfl ?_; simp -implicitDefEqProofs -dsimp [-List.map_set, -List.map_append, -List.map_replicate, fold_int, fold_ints, fold_u8, fold_u8s, lv20])
    | (refine WpC.regP rfl (by decide +kernel) fol (by decide +kernel) (by decide +kernel) ?_; simp -implicitDefEqProofs -dsimp [-List.map_set, -List.map_append, -List.map_replicate, fold_int, fold_ints, fold_u8, fold_u8s, lv20])
    | (refine WpC.regI dr20 rfl rfl (by decide +kernel) fol ?_; simp -implicitDefEqProofs -dsimp [dr20, -List.map_set, -List.map_append, -List.map_replicate, fold_int, fold_ints, fold_u8, fold_u8s, lv20])
    | (refine WpC.regM dm20 rfl rfl (by decide +kernel) fol ?_; simp -implicitDefEqProofs -dsimp [dm20, -List.map_set, -List.map_append, -List.map_replicate, fold_int, fold_ints, fold_u8, fold_u8s, lv20])
    | (refine WpC.regQ dq20 rfl rfl (by decide +kernel) fol ?_; simp -implicitDefEqProofs -dsimp [dq20, -List.map_set, -List.map_append, -List.map_replicate, fold_int, fold_ints, fold_u8, fold_u8s, lv20])
    | (refine WpC.skipC rfl ?_; try simp -implicitDefEqProofs -dsimp [-List.map_set, -List.map_append, -List.map_replicate, fold_int, fold_ints, fold_u8, fold_u8s, lv20])
    | (refine WpC.retC rfl ?_; try simp -implicitDefEqProofs -dsimp [-List.map_set, -List.map_append, -List.map_replicate, fold_int, fold_ints, fold_u8, fold_u8s, lv20])
    | (refine WpC.exitC rfl ?_; try simp -implicitDefEqProofs -dsimp [-List.map_set, -List.map_append, -List.map_replicate, fold_int, fold_ints, fold_u8, fold_u8s, lv20])
    | (refine WpC.condK rfl ?_; simp -implicitDefEqProofs -dsimp [-List.map_set, -List.map_append, -List.map_replicate, fold_int, fold_ints, fold_u8, fold_u8s, lv20])
    | with_reducible refine And.intro (fun _ => ?_) (fun _ => ?_)
    | (with_reducible refine And.intro (by omega) ?_))
      · refine hR2 _ _ _ (by simp) ?_
        simp
        refine (hR _ _ ?_).1; simp -implicitDefEqProofs -dsimp [-List.map_set, -List.map_append, -List.map_replicate, fold_int, fold_ints, fold_u8, fold_u8s, Try.f20, envL]
        rintro rfl
        simp_all
      · rename_i h
        refine hR1 (j + 1) _ _ ⟨by omega, fun i hi => ?_⟩ (Gh.round [] (by simp) (by simp) rfl (by simp -implicitDefEqProofs -dsimp [-List.map_set, -List.map_append, -List.map_replicate, fold_int, fold_ints, fold_u8, fold_u8s, obMp, keepG, List.idxOf?_cons, leM, envL, i64w] <;> (try simp (disch := omega) only [i64w])) (by simp -implicitDefEqProofs -dsimp [-List.map_set, -List.map_append, -List.map_replicate, fold_int, fold_ints, fold_u8, fold_u8s, obMp, keepG, List.idxOf?_cons, leM, envL, i64w] <;> (try simp (disch := omega) only [i64w]))) (by omega)
        rcases Nat.lt_or_ge i j with h' | h'
        · exact hs i h'
        · have : i = j := by omega
          subst this
          exact h
      · refine hR2 _ _ _ (by simp) ?_
        simp
        repeat' (first
    | refine WpC.seqC lv20 rfl ?_
    | refine WpC.blockC rfl ?_
    | (refine WpC.reg rfl rfl ?_; simp -implicitDefEqProofs -dsimp [-List.map_set, -List.map_append, -List.map_replicate, fold_int, fold_ints, fold_u8, fold_u8s, lv20])
    | (refine WpC.regP rfl (by decide +kernel) fol (by decide +kernel) (by decide +kernel) ?_; simp -implicitDefEqProofs -dsimp [-List.map_set, -List.map_append, -List.map_replicate, fold_int, fold_ints, fold_u8, fold_u8s, lv20])
    | (refine WpC.regI dr20 rfl rfl (by decide +kernel) fol ?_; simp -implicitDefEqProofs -dsimp [dr20, -List.map_set, -List.map_append, -List.map_replicate, fold_int, fold_ints, fold_u8, fold_u8s, lv20])
    | (refine WpC.regM dm20 rfl rfl (by decide +kernel) fol ?_; simp -implicitDefEqProofs -dsimp [dm20, -List.map_set, -List.map_append, -List.map_replicate, fold_int, fold_ints, fold_u8, fold_u8s, lv20])
    | (refine WpC.regQ dq20 rfl rfl (by decide +kernel) fol ?_; simp -implicitDefEqProofs -dsimp [dq20, -List.map_set, -List.map_append, -List.map_replicate, fold_int, fold_ints, fold_u8, fold_u8s, lv20])
    | (refine WpC.skipC rfl ?_; try simp -implicitDefEqProofs -dsimp [-List.map_set, -List.map_append, -List.map_replicate, fold_int, fold_ints, fold_u8, fold_u8s, lv20])
    | (refine WpC.retC rfl ?_; try simp -implicitDefEqProofs -dsimp [-List.map_set, -List.map_append, -List.map_replicate, fold_int, fold_ints, fold_u8, fold_u8s, lv20])
    | (refine WpC.exitC rfl ?_; try simp -implicitDefEqProofs -dsimp [-List.map_set, -List.map_append, -List.map_replicate, fold_int, fold_ints, fold_u8, fold_u8s, lv20])
    | (refine WpC.condK rfl ?_; simp -implicitDefEqProofs -dsimp [-List.map_set, -List.map_append, -List.map_replicate, fold_int, fold_ints, fold_u8, fold_u8s, lv20])
    | with_reducible refine And.intro (fun _ => ?_) (fun _ => ?_)
    | (with_reducible refine And.intro (by omega) ?_))
        refine (hR _ _ ?_).1; simp -implicitDefEqProofs -dsimp [-List.map_set, -List.map_append, -List.map_replicate, fold_int, fold_ints, fold_u8, fold_u8s, Try.f20, envL]
        refine List.ext_getElem hlen' fun i h1 h2 => ?_
        have := hs i (by omega)
        rwa [rd_lt h1, rd_lt h2] at this

theorem Yes (nodes said : List Int) (need : Int) (h8 : said.length ≤ 8) (hn : nodes.length ≤ 1000000) :
    Con Try.prog 22 [.ref 0 0, .sl false (nodes.map int) nodes.length] [obj false 1 said need, arr false said] fun m T' =>
      m = .tup [] ∧ T' = [obj false 1 (says 1 nodes said) need, arr false (says 1 nodes said)] := by
  refine Con.by Try.func22 en22 rfl (by simp [Try.ntmps22]) fun R hR hF hU => ?_; rw [Try.ntmps22]
  repeat' (first
    | refine WpC.seqC lv22 rfl ?_
    | refine WpC.blockC rfl ?_
    | (refine WpC.reg rfl rfl ?_; simp -implicitDefEqProofs -dsimp [-List.map_set, -List.map_append, -List.map_replicate, fold_int, fold_ints, fold_u8, fold_u8s, lv22])
    | (refine WpC.regP rfl (by decide +kernel) fol (by decide +kernel) (by decide +kernel) ?_; simp -implicitDefEqProofs -dsimp [-List.map_set, -List.map_append, -List.map_replicate, fold_int, fold_ints, fold_u8, fold_u8s, lv22])
    | (refine WpC.regI dr22 rfl rfl (by decide +kernel) fol ?_; simp -implicitDefEqProofs -dsimp [dr22, -List.map_set, -List.map_append, -List.map_replicate, fold_int, fold_ints, fold_u8, fold_u8s, lv22])
    | (refine WpC.regM dm22 rfl rfl (by decide +kernel) fol ?_; simp -implicitDefEqProofs -dsimp [dm22, -List.map_set, -List.map_append, -List.map_replicate, fold_int, fold_ints, fold_u8, fold_u8s, lv22])
    | (refine WpC.regQ dq22 rfl rfl (by decide +kernel) fol ?_; simp -implicitDefEqProofs -dsimp [dq22, -List.map_set, -List.map_append, -List.map_replicate, fold_int, fold_ints, fold_u8, fold_u8s, lv22])
    | (refine WpC.skipC rfl ?_; try simp -implicitDefEqProofs -dsimp [-List.map_set, -List.map_append, -List.map_replicate, fold_int, fold_ints, fold_u8, fold_u8s, lv22])
    | (refine WpC.retC rfl ?_; try simp -implicitDefEqProofs -dsimp [-List.map_set, -List.map_append, -List.map_replicate, fold_int, fold_ints, fold_u8, fold_u8s, lv22])
    | (refine WpC.exitC rfl ?_; try simp -implicitDefEqProofs -dsimp [-List.map_set, -List.map_append, -List.map_replicate, fold_int, fold_ints, fold_u8, fold_u8s, lv22])
    | (refine WpC.condK rfl ?_; simp -implicitDefEqProofs -dsimp [-List.map_set, -List.map_append, -List.map_replicate, fold_int, fold_ints, fold_u8, fold_u8s, lv22])
    | with_reducible refine And.intro (fun _ => ?_) (fun _ => ?_)
    | (with_reducible refine And.intro (by omega) ?_))
  refine CallX.by4 (say false 1 (.inl rfl) nodes said need h8 hn) false [0, 1] 6 (by simp) (by simp) (by simp) (by simp -implicitDefEqProofs [-List.map_set, -List.map_append, -List.map_replicate, fold_int, fold_ints, fold_u8, fold_u8s, rs, rsOb, List.idxOf?_cons]) (by simp -implicitDefEqProofs [-List.map_set, -List.map_append, -List.map_replicate, fold_int, fold_ints, fold_u8, fold_u8s, rs, rsOb, List.idxOf?_cons]) ?_
  rintro m T' ⟨rfl, rfl⟩ _
  simp -implicitDefEqProofs -dsimp [-List.map_set, -List.map_append, -List.map_replicate, fold_int, fold_ints, fold_u8, fold_u8s, frOb, obMp, setAll, setOb, gMap, lv22]
  refine (hR _ _ ?_).2
  simp -implicitDefEqProofs -dsimp [-List.map_set, -List.map_append, -List.map_replicate, fold_int, fold_ints, fold_u8, fold_u8s, lv22, Try.f22]

theorem No (nodes said : List Int) (need : Int) (h8 : said.length ≤ 8) (hn : nodes.length ≤ 1000000) :
    Con Try.prog 24 [.ref 0 0, .sl false (nodes.map int) nodes.length] [obj false 1 said need, arr false said] fun m T' =>
      m = .tup [] ∧ T' = [obj false 1 (says 2 nodes said) need, arr false (says 2 nodes said)] := by
  refine Con.by Try.func24 en24 rfl (by simp [Try.ntmps24]) fun R hR hF hU => ?_; rw [Try.ntmps24]
  repeat' (first
    | refine WpC.seqC lv24 rfl ?_
    | refine WpC.blockC rfl ?_
    | (refine WpC.reg rfl rfl ?_; simp -implicitDefEqProofs -dsimp [-List.map_set, -List.map_append, -List.map_replicate, fold_int, fold_ints, fold_u8, fold_u8s, lv24])
    | (refine WpC.regP rfl (by decide +kernel) fol (by decide +kernel) (by decide +kernel) ?_; simp -implicitDefEqProofs -dsimp [-List.map_set, -List.map_append, -List.map_replicate, fold_int, fold_ints, fold_u8, fold_u8s, lv24])
    | (refine WpC.regI dr24 rfl rfl (by decide +kernel) fol ?_; simp -implicitDefEqProofs -dsimp [dr24, -List.map_set, -List.map_append, -List.map_replicate, fold_int, fold_ints, fold_u8, fold_u8s, lv24])
    | (refine WpC.regM dm24 rfl rfl (by decide +kernel) fol ?_; simp -implicitDefEqProofs -dsimp [dm24, -List.map_set, -List.map_append, -List.map_replicate, fold_int, fold_ints, fold_u8, fold_u8s, lv24])
    | (refine WpC.regQ dq24 rfl rfl (by decide +kernel) fol ?_; simp -implicitDefEqProofs -dsimp [dq24, -List.map_set, -List.map_append, -List.map_replicate, fold_int, fold_ints, fold_u8, fold_u8s, lv24])
    | (refine WpC.skipC rfl ?_; try simp -implicitDefEqProofs -dsimp [-List.map_set, -List.map_append, -List.map_replicate, fold_int, fold_ints, fold_u8, fold_u8s, lv24])
    | (refine WpC.retC rfl ?_; try simp -implicitDefEqProofs -dsimp [-List.map_set, -List.map_append, -List.map_replicate, fold_int, fold_ints, fold_u8, fold_u8s, lv24])
    | (refine WpC.exitC rfl ?_; try simp -implicitDefEqProofs -dsimp [-List.map_set, -List.map_append, -List.map_replicate, fold_int, fold_ints, fold_u8, fold_u8s, lv24])
    | (refine WpC.condK rfl ?_; simp -implicitDefEqProofs -dsimp [-List.map_set, -List.map_append, -List.map_replicate, fold_int, fold_ints, fold_u8, fold_u8s, lv24])
    | with_reducible refine And.intro (fun _ => ?_) (fun _ => ?_)
    | (with_reducible refine And.intro (by omega) ?_))
  refine CallX.by4 (say false 2 (.inr rfl) nodes said need h8 hn) false [0, 1] 6 (by simp) (by simp) (by simp) (by simp -implicitDefEqProofs [-List.map_set, -List.map_append, -List.map_replicate, fold_int, fold_ints, fold_u8, fold_u8s, rs, rsOb, List.idxOf?_cons]) (by simp -implicitDefEqProofs [-List.map_set, -List.map_append, -List.map_replicate, fold_int, fold_ints, fold_u8, fold_u8s, rs, rsOb, List.idxOf?_cons]) ?_
  rintro m T' ⟨rfl, rfl⟩ _
  simp -implicitDefEqProofs -dsimp [-List.map_set, -List.map_append, -List.map_replicate, fold_int, fold_ints, fold_u8, fold_u8s, frOb, obMp, setAll, setOb, gMap, lv24]
  refine (hR _ _ ?_).2
  simp -implicitDefEqProofs -dsimp [-List.map_set, -List.map_append, -List.map_replicate, fold_int, fold_ints, fold_u8, fold_u8s, lv24, Try.f24]

end Go.Proofs.Ytpbgiccloeihcaa
