import Derived.Test.YtpbgiccloeihcaaC
open Go Go.Tl
set_option linter.unusedSimpArgs false
set_option linter.unusedVariables false
set_option linter.unnecessarySimpa false
namespace Go.Proofs.Ytpbgiccloeihcaa
def many (nodes : Int) : Nat := (min (max nodes 0) 8).toNat
theorem many_le (nodes : Int) : many nodes ≤ 8 := by unfold many; omega
theorem many_eq (nodes : Int) : (if (8 : Int) < (if nodes < 0 then 0 else nodes) then 8 else (if nodes < 0 then 0 else nodes)) = (many nodes : Int) := by
  unfold many
  split <;> split <;> omega
theorem many_eq' (nodes : Int) : (if (if 0 > nodes then 0 else nodes) > (8 : Int) then 8 else (if 0 > nodes then 0 else nodes)) = (many nodes : Int) := by
  unfold many
  split <;> split <;> omega
def none0 (nodes : Int) : List Int := List.replicate (many nodes) 0
theorem cnt_none (k : Int) (nodes : Int) : cnt k (none0 nodes) = if k = 0 then (many nodes : Int) else 0 := by
  unfold cnt none0
  rw [List.countP_replicate]
  by_cases h : k = 0
  · subst h; rfl
  · have : ((0 : Int) == k) = false := by rw [beq_eq_false_iff_ne]; exact fun e => h e.symm
    simp [h, this]
theorem none0_length (nodes : Int) : (none0 nodes).length = many nodes := by simp [none0]

theorem New (nodes need : Int) :
    Con Try.prog 9 [int nodes, int need] [] fun m T' => m = .ref 1 0 ∧ T' = [arr true (none0 nodes), obj true 0 (none0 nodes) need] := by
  have h8 := many_le nodes
  have hm := many_eq nodes
  refine Con.by Try.func9 en9 rfl (by simp [Try.ntmps9]) fun R hR hF hU => ?_; rw [Try.ntmps9]
  repeat' (first
    | refine WpC.seqC lv9 rfl ?_
    | refine WpC.blockC rfl ?_
    | (refine WpC.reg rfl rfl ?_; simp -implicitDefEqProofs -dsimp [-List.map_set, -List.map_append, -List.map_replicate, fold_int, fold_ints, fold_u8, fold_u8s, lv9, hm])
    | (refine WpC.regP rfl (by decide +kernel) fol (by decide +kernel) (by decide +kernel) ?_; simp -implicitDefEqProofs -dsimp [-List.map_set, -List.map_append, -List.map_replicate, fold_int, fold_ints, fold_u8, fold_u8s, lv9, hm])
    | (refine WpC.regI dr9 rfl rfl (by decide +kernel) fol ?_; simp -implicitDefEqProofs -dsimp [dr9, -List.map_set, -List.map_append, -List.map_replicate, fold_int, fold_ints, fold_u8, fold_u8s, lv9, hm])
    | (refine WpC.regM dm9 rfl rfl (by decide +kernel) fol ?_; simp -implicitDefEqProofs -dsimp [dm9, -List.map_set, -List.map_append, -List.map_replicate, fold_int, fold_ints, fold_u8, fold_u8s, lv9, hm])
    | (refine WpC.regQ dq9 rfl rfl (by decide +kernel) fol ?_; simp -implicitDefEqProofs -dsimp [dq9, -List.map_set, -List.map_append, -List.map_replicate, fold_int, fold_ints, fold_u8, fold_u8s, lv9, hm])
    | (refine WpC.skipC rfl ?_; try simp -implicitDefEqProofs -dsimp [-List.map_set, -List.map_append, -List.map_replicate, fold_int, fold_ints, fold_u8, fold_u8s, lv9, hm])
    | (refine WpC.retC rfl ?_; try simp -implicitDefEqProofs -dsimp [-List.map_set, -List.map_append, -List.map_replicate, fold_int, fold_ints, fold_u8, fold_u8s, lv9, hm])
    | (refine WpC.exitC rfl ?_; try simp -implicitDefEqProofs -dsimp [-List.map_set, -List.map_append, -List.map_replicate, fold_int, fold_ints, fold_u8, fold_u8s, lv9, hm])
    | (refine WpC.condK rfl ?_; simp -implicitDefEqProofs -dsimp [-List.map_set, -List.map_append, -List.map_replicate, fold_int, fold_ints, fold_u8, fold_u8s, lv9, hm])
    | with_reducible refine And.intro (fun _ => ?_) (fun _ => ?_)
    | (with_reducible refine And.intro (by omega) ?_))
  refine (hR _ _ ?_).1; simp -implicitDefEqProofs -dsimp [-List.map_set, -List.map_append, -List.map_replicate, fold_int, fold_ints, fold_u8, fold_u8s, Try.f9, envL]
  have e : List.replicate (many nodes) (0 : Int) = none0 nodes := rfl
  simp [e, cnt_none, none0_length]
  simp [none0]

abbrev agT (said : List Int) (need : Int) (fr : Bool) : M := .agg [.sl fr (said.map int) said.length, int need]

theorem refNew (nodes need : Int) :
    Con Try.prog 10 [int nodes, int need] [] fun m T' => m = agT (none0 nodes) need true ∧ T' = [] := by
  have h8 := many_le nodes
  refine Con.by Try.func10 en10 rfl (by simp [Try.ntmps10]) fun R hR hF hU => ?_; rw [Try.ntmps10]
  repeat' (first
    | refine WpC.seqC lv10 rfl ?_
    | refine WpC.blockC rfl ?_
    | (refine WpC.reg rfl rfl ?_; simp -implicitDefEqProofs -dsimp [-List.map_set, -List.map_append, -List.map_replicate, fold_int, fold_ints, fold_u8, fold_u8s, lv10])
    | (refine WpC.regP rfl (by decide +kernel) fol (by decide +kernel) (by decide +kernel) ?_; simp -implicitDefEqProofs -dsimp [-List.map_set, -List.map_append, -List.map_replicate, fold_int, fold_ints, fold_u8, fold_u8s, lv10])
    | (refine WpC.regI dr10 rfl rfl (by decide +kernel) fol ?_; simp -implicitDefEqProofs -dsimp [dr10, -List.map_set, -List.map_append, -List.map_replicate, fold_int, fold_ints, fold_u8, fold_u8s, lv10])
    | (refine WpC.regM dm10 rfl rfl (by decide +kernel) fol ?_; simp -implicitDefEqProofs -dsimp [dm10, -List.map_set, -List.map_append, -List.map_replicate, fold_int, fold_ints, fold_u8, fold_u8s, lv10])
    | (refine WpC.regQ dq10 rfl rfl (by decide +kernel) fol ?_; simp -implicitDefEqProofs -dsimp [dq10, -List.map_set, -List.map_append, -List.map_replicate, fold_int, fold_ints, fold_u8, fold_u8s, lv10])
    | (refine WpC.skipC rfl ?_; try simp -implicitDefEqProofs -dsimp [-List.map_set, -List.map_append, -List.map_replicate, fold_int, fold_ints, fold_u8, fold_u8s, lv10])
    | (refine WpC.retC rfl ?_; try simp -implicitDefEqProofs -dsimp [-List.map_set, -List.map_append, -List.map_replicate, fold_int, fold_ints, fold_u8, fold_u8s, lv10])
    | (refine WpC.exitC rfl ?_; try simp -implicitDefEqProofs -dsimp [-List.map_set, -List.map_append, -List.map_replicate, fold_int, fold_ints, fold_u8, fold_u8s, lv10])
    | (refine WpC.condK rfl ?_; simp -implicitDefEqProofs -dsimp [-List.map_set, -List.map_append, -List.map_replicate, fold_int, fold_ints, fold_u8, fold_u8s, lv10])
    | with_reducible refine And.intro (fun _ => ?_) (fun _ => ?_)
    | (with_reducible refine And.intro (by omega) ?_))
  refine WpC.loopC rfl (fun j => j ≤ many nodes) (fun j => ([(0, int nodes), (4, .ref 0 0), (5, .ref 1 0), (6, int j)],
    [.cells true [.v (.slice none 0 0), int 0], .cells true [.sr 2 0 j 1, int need], .cells true ((List.replicate j (0 : Int)).map int)])) (fun j => many nodes - j) 0 (by simp) ?_ ?_
  · refine (Gh.ownCell 1 0 1 rfl rfl).trans ?_
    refine Gh.envL ?_
    simp -implicitDefEqProofs -dsimp [-List.map_set, -List.map_append, -List.map_replicate, fold_int, fold_ints, fold_u8, fold_u8s, obMp, keepG, List.idxOf?_cons, leM, envL, i64w]
  · intro j hj R' hR1 hR2
    simp only at hj hR1 ⊢
    repeat' (first
    | refine WpC.seqC lv10 rfl ?_
    | refine WpC.blockC rfl ?_
    | (refine WpC.reg rfl rfl ?_; simp -implicitDefEqProofs -dsimp [-List.map_set, -List.map_append, -List.map_replicate, fold_int, fold_ints, fold_u8, fold_u8s, lv10])
    | (refine WpC.regP rfl (by decide +kernel) fol (by decide +kernel) (by decide +kernel) ?_; simp -implicitDefEqProofs -dsimp [-List.map_set, -List.map_append, -List.map_replicate, fold_int, fold_ints, fold_u8, fold_u8s, lv10])
    | (refine WpC.regI dr10 rfl rfl (by decide +kernel) fol ?_; simp -implicitDefEqProofs -dsimp [dr10, -List.map_set, -List.map_append, -List.map_replicate, fold_int, fold_ints, fold_u8, fold_u8s, lv10])
    | (refine WpC.regM dm10 rfl rfl (by decide +kernel) fol ?_; simp -implicitDefEqProofs -dsimp [dm10, -List.map_set, -List.map_append, -List.map_replicate, fold_int, fold_ints, fold_u8, fold_u8s, lv10])
    | (refine WpC.regQ dq10 rfl rfl (by decide +kernel) fol ?_; simp -implicitDefEqProofs -dsimp [dq10, -List.map_set, -List.map_append, -List.map_replicate, fold_int, fold_ints, fold_u8, fold_u8s, lv10])
    | (refine WpC.skipC rfl ?_; try simp -implicitDefEqProofs -dsimp [-List.map_set, -List.map_append, -List.map_replicate, fold_int, fold_ints, fold_u8, fold_u8s, lv10])
    | (refine WpC.retC rfl ?_; try simp -implicitDefEqProofs -dsimp [-List.map_set, -List.map_append, -List.map_replicate, fold_int, fold_ints, fold_u8, fold_u8s, lv10])
    | (refine WpC.exitC rfl ?_; try simp -implicitDefEqProofs -dsimp [-List.map_set, -List.map_append, -List.map_replicate, fold_int, fold_ints, fold_u8, fold_u8s, lv10])
    | (refine WpC.condK rfl ?_; simp -implicitDefEqProofs -dsimp [-List.map_set, -List.map_append, -List.map_replicate, fold_int, fold_ints, fold_u8, fold_u8s, lv10])
    | with_reducible refine And.intro (fun _ => ?_) (fun _ => ?_)
    | (with_reducible refine And.intro (by omega) ?_))
    · refine hR1 (j + 1) _ _ (by unfold many; omega) (Gh.round [0, 1, 4] (by simp) (by simp) rfl (by simp -implicitDefEqProofs -dsimp [-List.map_set, -List.map_append, -List.map_replicate, fold_int, fold_ints, fold_u8, fold_u8s, obMp, keepG, List.idxOf?_cons, leM, envL, i64w, List.replicate_succ'] <;> (try simp (disch := omega) only [i64w])) (by simp -implicitDefEqProofs -dsimp [-List.map_set, -List.map_append, -List.map_replicate, fold_int, fold_ints, fold_u8, fold_u8s, obMp, keepG, List.idxOf?_cons, leM, envL, i64w, List.replicate_succ'] <;> (try simp (disch := omega) only [i64w]))) (by unfold many; omega)
    · have : j = many nodes := by unfold many at hj ⊢; omega
      subst this
      refine hR2 _ _ _ (by simp) ?_
      simp -implicitDefEqProofs -dsimp [-List.map_set, -List.map_append, -List.map_replicate, fold_int, fold_ints, fold_u8, fold_u8s, lv10]
      repeat' (first
    | refine WpC.seqC lv10 rfl ?_
    | refine WpC.blockC rfl ?_
    | (refine WpC.reg rfl rfl ?_; simp -implicitDefEqProofs -dsimp [-List.map_set, -List.map_append, -List.map_replicate, fold_int, fold_ints, fold_u8, fold_u8s, lv10])
    | (refine WpC.regP rfl (by decide +kernel) fol (by decide +kernel) (by decide +kernel) ?_; simp -implicitDefEqProofs -dsimp [-List.map_set, -List.map_append, -List.map_replicate, fold_int, fold_ints, fold_u8, fold_u8s, lv10])
    | (refine WpC.regI dr10 rfl rfl (by decide +kernel) fol ?_; simp -implicitDefEqProofs -dsimp [dr10, -List.map_set, -List.map_append, -List.map_replicate, fold_int, fold_ints, fold_u8, fold_u8s, lv10])
    | (refine WpC.regM dm10 rfl rfl (by decide +kernel) fol ?_; simp -implicitDefEqProofs -dsimp [dm10, -List.map_set, -List.map_append, -List.map_replicate, fold_int, fold_ints, fold_u8, fold_u8s, lv10])
    | (refine WpC.regQ dq10 rfl rfl (by decide +kernel) fol ?_; simp -implicitDefEqProofs -dsimp [dq10, -List.map_set, -List.map_append, -List.map_replicate, fold_int, fold_ints, fold_u8, fold_u8s, lv10])
    | (refine WpC.skipC rfl ?_; try simp -implicitDefEqProofs -dsimp [-List.map_set, -List.map_append, -List.map_replicate, fold_int, fold_ints, fold_u8, fold_u8s, lv10])
    | (refine WpC.retC rfl ?_; try simp -implicitDefEqProofs -dsimp [-List.map_set, -List.map_append, -List.map_replicate, fold_int, fold_ints, fold_u8, fold_u8s, lv10])
    | (refine WpC.exitC rfl ?_; try simp -implicitDefEqProofs -dsimp [-List.map_set, -List.map_append, -List.map_replicate, fold_int, fold_ints, fold_u8, fold_u8s, lv10])
    | (refine WpC.condK rfl ?_; simp -implicitDefEqProofs -dsimp [-List.map_set, -List.map_append, -List.map_replicate, fold_int, fold_ints, fold_u8, fold_u8s, lv10])
    | with_reducible refine And.intro (fun _ => ?_) (fun _ => ?_)
    | (with_reducible refine And.intro (by omega) ?_))
      refine (hF [2] _ _ (by simp) ?_).1; simp -implicitDefEqProofs -dsimp [-List.map_set, -List.map_append, -List.map_replicate, fold_int, fold_ints, fold_u8, fold_u8s, Try.f10, frzOb, keepT, List.range_succ, keepG, List.idxOf?_cons, obMp, envL]
      simp [none0]
    · have : j = many nodes := by unfold many at hj ⊢; omega
      subst this
      refine hR2 _ _ _ (by simp) ?_
      simp -implicitDefEqProofs -dsimp [-List.map_set, -List.map_append, -List.map_replicate, fold_int, fold_ints, fold_u8, fold_u8s, lv10]
      repeat' (first
    | refine WpC.seqC lv10 rfl ?_
    | refine WpC.blockC rfl ?_
    | (refine WpC.reg rfl rfl ?_; simp -implicitDefEqProofs -dsimp [-List.map_set, -List.map_append, -List.map_replicate, fold_int, fold_ints, fold_u8, fold_u8s, lv10])
    | (refine WpC.regP rfl (by decide +kernel) fol (by decide +kernel) (by decide +kernel) ?_; simp -implicitDefEqProofs -dsimp [-List.map_set, -List.map_append, -List.map_replicate, fold_int, fold_ints, fold_u8, fold_u8s, lv10])
    | (refine WpC.regI dr10 rfl rfl (by decide +kernel) fol ?_; simp -implicitDefEqProofs -dsimp [dr10, -List.map_set, -List.map_append, -List.map_replicate, fold_int, fold_ints, fold_u8, fold_u8s, lv10])
    | (refine WpC.regM dm10 rfl rfl (by decide +kernel) fol ?_; simp -implicitDefEqProofs -dsimp [dm10, -List.map_set, -List.map_append, -List.map_replicate, fold_int, fold_ints, fold_u8, fold_u8s, lv10])
    | (refine WpC.regQ dq10 rfl rfl (by decide +kernel) fol ?_; simp -implicitDefEqProofs -dsimp [dq10, -List.map_set, -List.map_append, -List.map_replicate, fold_int, fold_ints, fold_u8, fold_u8s, lv10])
    | (refine WpC.skipC rfl ?_; try simp -implicitDefEqProofs -dsimp [-List.map_set, -List.map_append, -List.map_replicate, fold_int, fold_ints, fold_u8, fold_u8s, lv10])
    | (refine WpC.retC rfl ?_; try simp -implicitDefEqProofs -dsimp [-List.map_set, -List.map_append, -List.map_replicate, fold_int, fold_ints, fold_u8, fold_u8s, lv10])
    | (refine WpC.exitC rfl ?_; try simp -implicitDefEqProofs -dsimp [-List.map_set, -List.map_append, -List.map_replicate, fold_int, fold_ints, fold_u8, fold_u8s, lv10])
    | (refine WpC.condK rfl ?_; simp -implicitDefEqProofs -dsimp [-List.map_set, -List.map_append, -List.map_replicate, fold_int, fold_ints, fold_u8, fold_u8s, lv10])
    | with_reducible refine And.intro (fun _ => ?_) (fun _ => ?_)
    | (with_reducible refine And.intro (by omega) ?_))
      refine (hF [2] _ _ (by simp) ?_).1; simp -implicitDefEqProofs -dsimp [-List.map_set, -List.map_append, -List.map_replicate, fold_int, fold_ints, fold_u8, fold_u8s, Try.f10, frzOb, keepT, List.range_succ, keepG, List.idxOf?_cons, obMp, envL]
      simp [none0]

theorem refSay (said : List Int) (need node what : Int) (h8 : said.length ≤ 8) :
    Con Try.prog 13 [agT said need false, int node, int what] [] fun m T' => m = agT (put what said node) need false ∧ T' = [] := by
  refine Con.by Try.func13 en13 rfl (by simp [Try.ntmps13]) fun R hR hF hU => ?_; rw [Try.ntmps13]
  repeat' (first
    | refine WpC.seqC lv13 rfl ?_
    | refine WpC.blockC rfl ?_
    | (refine WpC.reg rfl rfl ?_; simp -implicitDefEqProofs -dsimp [-List.map_set, -List.map_append, -List.map_replicate, fold_int, fold_ints, fold_u8, fold_u8s, lv13])
    | (refine WpC.regP rfl (by decide +kernel) fol (by decide +kernel) (by decide +kernel) ?_; simp -implicitDefEqProofs -dsimp [-List.map_set, -List.map_append, -List.map_replicate, fold_int, fold_ints, fold_u8, fold_u8s, lv13])
    | (refine WpC.regI dr13 rfl rfl (by decide +kernel) fol ?_; simp -implicitDefEqProofs -dsimp [dr13, -List.map_set, -List.map_append, -List.map_replicate, fold_int, fold_ints, fold_u8, fold_u8s, lv13])
    | (refine WpC.regM dm13 rfl rfl (by decide +kernel) fol ?_; simp -implicitDefEqProofs -dsimp [dm13, -List.map_set, -List.map_append, -List.map_replicate, fold_int, fold_ints, fold_u8, fold_u8s, lv13])
    | (refine WpC.regQ dq13 rfl rfl (by decide +kernel) fol ?_; simp -implicitDefEqProofs -dsimp [dq13, -List.map_set, -List.map_append, -List.map_replicate, fold_int, fold_ints, fold_u8, fold_u8s, lv13])
    | (refine WpC.skipC rfl ?_; try simp -implicitDefEqProofs -dsimp [-List.map_set, -List.map_append, -List.map_replicate, fold_int, fold_ints, fold_u8, fold_u8s, lv13])
    | (refine WpC.retC rfl ?_; try simp -implicitDefEqProofs -dsimp [-List.map_set, -List.map_append, -List.map_replicate, fold_int, fold_ints, fold_u8, fold_u8s, lv13])
    | (refine WpC.exitC rfl ?_; try simp -implicitDefEqProofs -dsimp [-List.map_set, -List.map_append, -List.map_replicate, fold_int, fold_ints, fold_u8, fold_u8s, lv13])
    | (refine WpC.condK rfl ?_; simp -implicitDefEqProofs -dsimp [-List.map_set, -List.map_append, -List.map_replicate, fold_int, fold_ints, fold_u8, fold_u8s, lv13])
    | with_reducible refine And.intro (fun _ => ?_) (fun _ => ?_)
    | (with_reducible refine And.intro (by omega) ?_))
  · refine (hU [] _ _ (by simp) ?_).1; simp -implicitDefEqProofs -dsimp [-List.map_set, -List.map_append, -List.map_replicate, fold_int, fold_ints, fold_u8, fold_u8s, Try.f13, frzOb, keepT, List.range_succ, keepG, List.idxOf?_cons, obMp, envL]
    rw [put_no _ _ _ (.inr (.inr (by assumption)))]; exact ⟨rfl, rfl⟩
  · refine (hU [3] _ _ (by simp) ?_).1; simp -implicitDefEqProofs -dsimp [-List.map_set, -List.map_append, -List.map_replicate, fold_int, fold_ints, fold_u8, fold_u8s, Try.f13, frzOb, keepT, List.range_succ, keepG, List.idxOf?_cons, obMp, envL]
    rw [put_yes _ _ _ (by assumption) (by assumption) (by assumption)]; simp -implicitDefEqProofs -dsimp [-List.map_set, -List.map_append, -List.map_replicate, fold_int, fold_ints, fold_u8, fold_u8s, lv13]
    rw [← List.length_set (i := node.toNat) (a := what), tk_map]
    simp -implicitDefEqProofs -dsimp [-List.map_set, -List.map_append, -List.map_replicate, fold_int, fold_ints, fold_u8, fold_u8s, lv13]
  · refine (hU [] _ _ (by simp) ?_).1; simp -implicitDefEqProofs -dsimp [-List.map_set, -List.map_append, -List.map_replicate, fold_int, fold_ints, fold_u8, fold_u8s, Try.f13, frzOb, keepT, List.range_succ, keepG, List.idxOf?_cons, obMp, envL]
    rw [put_no _ _ _ (.inr (.inl (by assumption)))]; exact ⟨rfl, rfl⟩
  · refine (hU [] _ _ (by simp) ?_).1; simp -implicitDefEqProofs -dsimp [-List.map_set, -List.map_append, -List.map_replicate, fold_int, fold_ints, fold_u8, fold_u8s, Try.f13, frzOb, keepT, List.range_succ, keepG, List.idxOf?_cons, obMp, envL]
    rw [put_no _ _ _ (.inl (by assumption))]; exact ⟨rfl, rfl⟩

theorem whr_length (k : Int) (said : List Int) : ((whr k said).length : Int) = cnt k said := by
  have key : ∀ j, j ≤ said.length → ((whrTo k said j).length : Int) = cnt k (said.take j) := by
    intro j
    induction j with
    | zero => intro _; simp [whrTo, cnt]
    | succ j ih =>
      intro hj
      have h1 := ih (by omega)
      have h2 : said.take (j + 1) = said.take j ++ [rd said j] := by
        rw [List.take_succ_eq_append_getElem (by omega), rd_lt]
      have h3 : cnt k (said.take (j + 1)) = cnt k (said.take j) + if rd said j = k then 1 else 0 := by
        unfold cnt
        rw [h2, List.countP_append]
        by_cases h : rd said j = k <;> simp [h]
      rw [whrTo_succ, h3, ← h1]
      split <;> simp
  have := key said.length (Nat.le_refl _)
  rw [List.take_length] at this
  exact this

theorem refDone (said : List Int) (need : Int) (h8 : said.length ≤ 8) :
    Con Try.prog 17 [agT said need false] [] fun m T' => m = .v (.bool (decide (need ≤ cnt 1 said))) ∧ T' = [] := by
  have hl := whr_length 1 said
  refine Con.by Try.func17 en17 rfl (by simp [Try.ntmps17]) fun R hR hF hU => ?_; rw [Try.ntmps17]
  repeat' (first
    | refine WpC.seqC lv17 rfl ?_
    | refine WpC.blockC rfl ?_
    | (refine WpC.reg rfl rfl ?_; simp -implicitDefEqProofs -dsimp [-List.map_set, -List.map_append, -List.map_replicate, fold_int, fold_ints, fold_u8, fold_u8s, lv17])
    | (refine WpC.regP rfl (by decide +kernel) fol (by decide +kernel) (by decide +kernel) ?_; simp -implicitDefEqProofs -dsimp [-List.map_set, -List.map_append, -List.map_replicate, fold_int, fold_ints, fold_u8, fold_u8s, lv17])
    | (refine WpC.regI dr17 rfl rfl (by decide +kernel) fol ?_; simp -implicitDefEqProofs -dsimp [dr17, -List.map_set, -List.map_append, -List.map_replicate, fold_int, fold_ints, fold_u8, fold_u8s, lv17])
    | (refine WpC.regM dm17 rfl rfl (by decide +kernel) fol ?_; simp -implicitDefEqProofs -dsimp [dm17, -List.map_set, -List.map_append, -List.map_replicate, fold_int, fold_ints, fold_u8, fold_u8s, lv17])
    | (refine WpC.regQ dq17 rfl rfl (by decide +kernel) fol ?_; simp -implicitDefEqProofs -dsimp [dq17, -List.map_set, -List.map_append, -List.map_replicate, fold_int, fold_ints, fold_u8, fold_u8s, lv17])
    | (refine WpC.skipC rfl ?_; try simp -implicitDefEqProofs -dsimp [-List.map_set, -List.map_append, -List.map_replicate, fold_int, fold_ints, fold_u8, fold_u8s, lv17])
    | (refine WpC.retC rfl ?_; try simp -implicitDefEqProofs -dsimp [-List.map_set, -List.map_append, -List.map_replicate, fold_int, fold_ints, fold_u8, fold_u8s, lv17])
    | (refine WpC.exitC rfl ?_; try simp -implicitDefEqProofs -dsimp [-List.map_set, -List.map_append, -List.map_replicate, fold_int, fold_ints, fold_u8, fold_u8s, lv17])
    | (refine WpC.condK rfl ?_; simp -implicitDefEqProofs -dsimp [-List.map_set, -List.map_append, -List.map_replicate, fold_int, fold_ints, fold_u8, fold_u8s, lv17])
    | with_reducible refine And.intro (fun _ => ?_) (fun _ => ?_)
    | (with_reducible refine And.intro (by omega) ?_))
  refine CallX.by4 (Of said need 1 h8) false [] 6 (by simp) (by simp) (by simp) (by simp -implicitDefEqProofs [-List.map_set, -List.map_append, -List.map_replicate, fold_int, fold_ints, fold_u8, fold_u8s, rs, rsOb, List.idxOf?_cons]) (by simp -implicitDefEqProofs [-List.map_set, -List.map_append, -List.map_replicate, fold_int, fold_ints, fold_u8, fold_u8s, rs, rsOb, List.idxOf?_cons]) ?_; rintro m T' ⟨rfl, rfl⟩ -; simp -implicitDefEqProofs -dsimp [-List.map_set, -List.map_append, -List.map_replicate, fold_int, fold_ints, fold_u8, fold_u8s, frOb, obMp, setAll, setOb, gMap, lv17]
  repeat' (first
    | refine WpC.seqC lv17 rfl ?_
    | refine WpC.blockC rfl ?_
    | (refine WpC.reg rfl rfl ?_; simp -implicitDefEqProofs -dsimp [-List.map_set, -List.map_append, -List.map_replicate, fold_int, fold_ints, fold_u8, fold_u8s, lv17])
    | (refine WpC.regP rfl (by decide +kernel) fol (by decide +kernel) (by decide +kernel) ?_; simp -implicitDefEqProofs -dsimp [-List.map_set, -List.map_append, -List.map_replicate, fold_int, fold_ints, fold_u8, fold_u8s, lv17])
    | (refine WpC.regI dr17 rfl rfl (by decide +kernel) fol ?_; simp -implicitDefEqProofs -dsimp [dr17, -List.map_set, -List.map_append, -List.map_replicate, fold_int, fold_ints, fold_u8, fold_u8s, lv17])
    | (refine WpC.regM dm17 rfl rfl (by decide +kernel) fol ?_; simp -implicitDefEqProofs -dsimp [dm17, -List.map_set, -List.map_append, -List.map_replicate, fold_int, fold_ints, fold_u8, fold_u8s, lv17])
    | (refine WpC.regQ dq17 rfl rfl (by decide +kernel) fol ?_; simp -implicitDefEqProofs -dsimp [dq17, -List.map_set, -List.map_append, -List.map_replicate, fold_int, fold_ints, fold_u8, fold_u8s, lv17])
    | (refine WpC.skipC rfl ?_; try simp -implicitDefEqProofs -dsimp [-List.map_set, -List.map_append, -List.map_replicate, fold_int, fold_ints, fold_u8, fold_u8s, lv17])
    | (refine WpC.retC rfl ?_; try simp -implicitDefEqProofs -dsimp [-List.map_set, -List.map_append, -List.map_replicate, fold_int, fold_ints, fold_u8, fold_u8s, lv17])
    | (refine WpC.exitC rfl ?_; try simp -implicitDefEqProofs -dsimp [-List.map_set, -List.map_append, -List.map_replicate, fold_int, fold_ints, fold_u8, fold_u8s, lv17])
    | (refine WpC.condK rfl ?_; simp -implicitDefEqProofs -dsimp [-List.map_set, -List.map_append, -List.map_replicate, fold_int, fold_ints, fold_u8, fold_u8s, lv17])
    | with_reducible refine And.intro (fun _ => ?_) (fun _ => ?_)
    | (with_reducible refine And.intro (by omega) ?_))
  refine (hF [] _ _ (by simp) ?_).1; simp -implicitDefEqProofs -dsimp [-List.map_set, -List.map_append, -List.map_replicate, fold_int, fold_ints, fold_u8, fold_u8s, Try.f17, frzOb, keepT, List.range_succ, keepG, List.idxOf?_cons, obMp, envL]
  rw [hl]

theorem refLost (said : List Int) (need : Int) (h8 : said.length ≤ 8) :
    Con Try.prog 19 [agT said need false] [] fun m T' => m = .v (.bool (decide (cnt 1 said + cnt 0 said < need))) ∧ T' = [] := by
  refine Con.by Try.func19 en19 rfl (by simp [Try.ntmps19]) fun R hR hF hU => ?_; rw [Try.ntmps19]
  repeat' (first
    | refine WpC.seqC lv19 rfl ?_
    | refine WpC.blockC rfl ?_
    | (refine WpC.reg rfl rfl ?_; simp -implicitDefEqProofs -dsimp [-List.map_set, -List.map_append, -List.map_replicate, fold_int, fold_ints, fold_u8, fold_u8s, lv19])
    | (refine WpC.regP rfl (by decide +kernel) fol (by decide +kernel) (by decide +kernel) ?_; simp -implicitDefEqProofs -dsimp [-List.map_set, -List.map_append, -List.map_replicate, fold_int, fold_ints, fold_u8, fold_u8s, lv19])
    | (refine WpC.regI dr19 rfl rfl (by decide +kernel) fol ?_; simp -implicitDefEqProofs -dsimp [dr19, -List.map_set, -List.map_append, -List.map_replicate, fold_int, fold_ints, fold_u8, fold_u8s, lv19])
    | (refine WpC.regM dm19 rfl rfl (by decide +kernel) fol ?_; simp -implicitDefEqProofs -dsimp [dm19, -List.map_set, -List.map_append, -List.map_replicate, fold_int, fold_ints, fold_u8, fold_u8s, lv19])
    | (refine WpC.regQ dq19 rfl rfl (by decide +kernel) fol ?_; simp -implicitDefEqProofs -dsimp [dq19, -List.map_set, -List.map_append, -List.map_replicate, fold_int, fold_ints, fold_u8, fold_u8s, lv19])
    | (refine WpC.skipC rfl ?_; try simp -implicitDefEqProofs -dsimp [-List.map_set, -List.map_append, -List.map_replicate, fold_int, fold_ints, fold_u8, fold_u8s, lv19])
    | (refine WpC.retC rfl ?_; try simp -implicitDefEqProofs -dsimp [-List.map_set, -List.map_append, -List.map_replicate, fold_int, fold_ints, fold_u8, fold_u8s, lv19])
    | (refine WpC.exitC rfl ?_; try simp -implicitDefEqProofs -dsimp [-List.map_set, -List.map_append, -List.map_replicate, fold_int, fold_ints, fold_u8, fold_u8s, lv19])
    | (refine WpC.condK rfl ?_; simp -implicitDefEqProofs -dsimp [-List.map_set, -List.map_append, -List.map_replicate, fold_int, fold_ints, fold_u8, fold_u8s, lv19])
    | with_reducible refine And.intro (fun _ => ?_) (fun _ => ?_)
    | (with_reducible refine And.intro (by omega) ?_))
  refine CallX.by4 (Of said need 1 h8) false [] 6 (by simp) (by simp) (by simp) (by simp -implicitDefEqProofs [-List.map_set, -List.map_append, -List.map_replicate, fold_int, fold_ints, fold_u8, fold_u8s, rs, rsOb, List.idxOf?_cons]) (by simp -implicitDefEqProofs [-List.map_set, -List.map_append, -List.map_replicate, fold_int, fold_ints, fold_u8, fold_u8s, rs, rsOb, List.idxOf?_cons]) ?_; rintro m T' ⟨rfl, rfl⟩ -; simp -implicitDefEqProofs -dsimp [-List.map_set, -List.map_append, -List.map_replicate, fold_int, fold_ints, fold_u8, fold_u8s, frOb, obMp, setAll, setOb, gMap, lv19]
  refine CallX.by4 (Of said need 0 h8) false [] 6 (by simp) (by simp) (by simp) (by simp -implicitDefEqProofs [-List.map_set, -List.map_append, -List.map_replicate, fold_int, fold_ints, fold_u8, fold_u8s, rs, rsOb, List.idxOf?_cons]) (by simp -implicitDefEqProofs [-List.map_set, -List.map_append, -List.map_replicate, fold_int, fold_ints, fold_u8, fold_u8s, rs, rsOb, List.idxOf?_cons]) ?_; rintro m T' ⟨rfl, rfl⟩ -; simp -implicitDefEqProofs -dsimp [-List.map_set, -List.map_append, -List.map_replicate, fold_int, fold_ints, fold_u8, fold_u8s, frOb, obMp, setAll, setOb, gMap, lv19]
  repeat' (first
    | refine WpC.seqC lv19 rfl ?_
    | refine WpC.blockC rfl ?_
    | (refine WpC.reg rfl rfl ?_; simp -implicitDefEqProofs -dsimp [-List.map_set, -List.map_append, -List.map_replicate, fold_int, fold_ints, fold_u8, fold_u8s, lv19])
    | (refine WpC.regP rfl (by decide +kernel) fol (by decide +kernel) (by decide +kernel) ?_; simp -implicitDefEqProofs -dsimp [-List.map_set, -List.map_append, -List.map_replicate, fold_int, fold_ints, fold_u8, fold_u8s, lv19])
    | (refine WpC.regI dr19 rfl rfl (by decide +kernel) fol ?_; simp -implicitDefEqProofs -dsimp [dr19, -List.map_set, -List.map_append, -List.map_replicate, fold_int, fold_ints, fold_u8, fold_u8s, lv19])
    | (refine WpC.regM dm19 rfl rfl (by decide +kernel) fol ?_; simp -implicitDefEqProofs -dsimp [dm19, -List.map_set, -List.map_append, -List.map_replicate, fold_int, fold_ints, fold_u8, fold_u8s, lv19])
    | (refine WpC.regQ dq19 rfl rfl (by decide +kernel) fol ?_; simp -implicitDefEqProofs -dsimp [dq19, -List.map_set, -List.map_append, -List.map_replicate, fold_int, fold_ints, fold_u8, fold_u8s, lv19])
    | (refine WpC.skipC rfl ?_; try simp -implicitDefEqProofs -dsimp [-List.map_set, -List.map_append, -List.map_replicate, fold_int, fold_ints, fold_u8, fold_u8s, lv19])
    | (refine WpC.retC rfl ?_; try simp -implicitDefEqProofs -dsimp [-List.map_set, -List.map_append, -List.map_replicate, fold_int, fold_ints, fold_u8, fold_u8s, lv19])
    | (refine WpC.exitC rfl ?_; try simp -implicitDefEqProofs -dsimp [-List.map_set, -List.map_append, -List.map_replicate, fold_int, fold_ints, fold_u8, fold_u8s, lv19])
    | (refine WpC.condK rfl ?_; simp -implicitDefEqProofs -dsimp [-List.map_set, -List.map_append, -List.map_replicate, fold_int, fold_ints, fold_u8, fold_u8s, lv19])
    | with_reducible refine And.intro (fun _ => ?_) (fun _ => ?_)
    | (with_reducible refine And.intro (by omega) ?_))
  refine (hF [] _ _ (by simp) ?_).1; simp -implicitDefEqProofs -dsimp [-List.map_set, -List.map_append, -List.map_replicate, fold_int, fold_ints, fold_u8, fold_u8s, Try.f19, frzOb, keepT, List.range_succ, keepG, List.idxOf?_cons, obMp, envL]
  have h1 := whr_length 1 said
  have h0 := whr_length 0 said
  have := cnt_hi 0 said
  have := cnt_hi 1 said
  rw [i64w] <;> omega

abbrev sy (s : Bool × List Int) : List M := [.v (.bool s.1), .sl false (s.2.map int) s.2.length]
def cut50 (l : List (Bool × List Int)) : List (Bool × List Int) := l.take 50
theorem cut50_length (l : List (Bool × List Int)) : (cut50 l).length ≤ 50 := by simp [cut50]; omega
theorem lcut (list : List (Bool × List Int)) :
    Con Try.prog 11 [.sl false (list.flatMap sy) list.length] [] fun m T' => m = .sl false ((cut50 list).flatMap sy) (cut50 list).length ∧ T' = [] := by
  unfold cut50
  refine Con.by Try.func11 en11 rfl (by simp [Try.ntmps11]) fun R hR hF hU => ?_; rw [Try.ntmps11]
  repeat' (first
    | refine WpC.seqC lv11 rfl ?_
    | refine WpC.blockC rfl ?_
    | (refine WpC.reg rfl rfl ?_; simp -implicitDefEqProofs -dsimp [-List.map_set, -List.map_append, -List.map_replicate, fold_int, fold_ints, fold_u8, fold_u8s, lv11])
    | (refine WpC.regP rfl (by decide +kernel) fol (by decide +kernel) (by decide +kernel) ?_; simp -implicitDefEqProofs -dsimp [-List.map_set, -List.map_append, -List.map_replicate, fold_int, fold_ints, fold_u8, fold_u8s, lv11])
    | (refine WpC.regI dr11 rfl rfl (by decide +kernel) fol ?_; simp -implicitDefEqProofs -dsimp [dr11, -List.map_set, -List.map_append, -List.map_replicate, fold_int, fold_ints, fold_u8, fold_u8s, lv11])
    | (refine WpC.regM dm11 rfl rfl (by decide +kernel) fol ?_; simp -implicitDefEqProofs -dsimp [dm11, -List.map_set, -List.map_append, -List.map_replicate, fold_int, fold_ints, fold_u8, fold_u8s, lv11])
    | (refine WpC.regQ dq11 rfl rfl (by decide +kernel) fol ?_; simp -implicitDefEqProofs -dsimp [dq11, -List.map_set, -List.map_append, -List.map_replicate, fold_int, fold_ints, fold_u8, fold_u8s, lv11])
    | (refine WpC.skipC rfl ?_; try simp -implicitDefEqProofs -dsimp [-List.map_set, -List.map_append, -List.map_replicate, fold_int, fold_ints, fold_u8, fold_u8s, lv11])
    | (refine WpC.retC rfl ?_; try simp -implicitDefEqProofs -dsimp [-List.map_set, -List.map_append, -List.map_replicate, fold_int, fold_ints, fold_u8, fold_u8s, lv11])
    | (refine WpC.exitC rfl ?_; try simp -implicitDefEqProofs -dsimp [-List.map_set, -List.map_append, -List.map_replicate, fold_int, fold_ints, fold_u8, fold_u8s, lv11])
    | (refine WpC.condK rfl ?_; simp -implicitDefEqProofs -dsimp [-List.map_set, -List.map_append, -List.map_replicate, fold_int, fold_ints, fold_u8, fold_u8s, lv11])
    | with_reducible refine And.intro (fun _ => ?_) (fun _ => ?_)
    | (with_reducible refine And.intro (by omega) ?_))
  · refine (hR _ _ ?_).1; simp -implicitDefEqProofs -dsimp [-List.map_set, -List.map_append, -List.map_replicate, fold_int, fold_ints, fold_u8, fold_u8s, Try.f11, envL]
    refine ⟨?_, by omega⟩
    exact take_flat (w := 2) (fun _ => rfl) list 50
  · refine (hR _ _ ?_).1; simp -implicitDefEqProofs -dsimp [-List.map_set, -List.map_append, -List.map_replicate, fold_int, fold_ints, fold_u8, fold_u8s, Try.f11, envL]
    rw [List.take_of_length_le (by omega)]
    exact ⟨rfl, by omega⟩

def wh (b : Bool) : Int := if b then 1 else 2
theorem lsay (s : Bool × List Int) (said : List Int) (need : Int) (h8 : said.length ≤ 8) (hn : s.2.length ≤ 1000) :
    Con Try.prog 12 [.ref 0 0, .agg (sy s)] [obj false 1 said need, arr false said] fun m T' => m = .tup [] ∧ T' = [obj false 1 (says (wh s.1) s.2 said) need, arr false (says (wh s.1) s.2 said)] := by
  refine Con.by Try.func12 en12 rfl (by simp [Try.ntmps12]) fun R hR hF hU => ?_; rw [Try.ntmps12]
  repeat' (first
    | refine WpC.seqC lv12 rfl ?_
    | refine WpC.blockC rfl ?_
    | (refine WpC.reg rfl rfl ?_; simp -implicitDefEqProofs -dsimp [-List.map_set, -List.map_append, -List.map_replicate, fold_int, fold_ints, fold_u8, fold_u8s, lv12])
    | (refine WpC.regP rfl (by decide +kernel) fol (by decide +kernel) (by decide +kernel) ?_; simp -implicitDefEqProofs -dsimp [-List.map_set, -List.map_append, -List.map_replicate, fold_int, fold_ints, fold_u8, fold_u8s, lv12])
    | (refine WpC.regI dr12 rfl rfl (by decide +kernel) fol ?_; simp -implicitDefEqProofs -dsimp [dr12, -List.map_set, -List.map_append, -List.map_replicate, fold_int, fold_ints, fold_u8, fold_u8s, lv12])
    | (refine WpC.regM dm12 rfl rfl (by decide +kernel) fol ?_; simp -implicitDefEqProofs -dsimp [dm12, -List.map_set, -List.map_append, -List.map_replicate, fold_int, fold_ints, fold_u8, fold_u8s, lv12])
    | (refine WpC.regQ dq12 rfl rfl (by decide +kernel) fol ?_; simp -implicitDefEqProofs -dsimp [dq12, -List.map_set, -List.map_append, -List.map_replicate, fold_int, fold_ints, fold_u8, fold_u8s, lv12])
    | (refine WpC.skipC rfl ?_; try simp -implicitDefEqProofs -dsimp [-List.map_set, -List.map_append, -List.map_replicate, fold_int, fold_ints, fold_u8, fold_u8s, lv12])
    | (refine WpC.retC rfl ?_; try simp -implicitDefEqProofs -dsimp [-List.map_set, -List.map_append, -List.map_replicate, fold_int, fold_ints, fold_u8, fold_u8s, lv12])
    | (refine WpC.exitC rfl ?_; try simp -implicitDefEqProofs -dsimp [-List.map_set, -List.map_append, -List.map_replicate, fold_int, fold_ints, fold_u8, fold_u8s, lv12])
    | (refine WpC.condK rfl ?_; simp -implicitDefEqProofs -dsimp [-List.map_set, -List.map_append, -List.map_replicate, fold_int, fold_ints, fold_u8, fold_u8s, lv12])
    | with_reducible refine And.intro (fun _ => ?_) (fun _ => ?_)
    | (with_reducible refine And.intro (by omega) ?_))
  · refine CallX.by4 (CopyInts s.2 (by omega)) false [] 6 (by simp) (by simp) (by simp) (by simp -implicitDefEqProofs [-List.map_set, -List.map_append, -List.map_replicate, fold_int, fold_ints, fold_u8, fold_u8s, rs, rsOb, List.idxOf?_cons]) (by simp -implicitDefEqProofs [-List.map_set, -List.map_append, -List.map_replicate, fold_int, fold_ints, fold_u8, fold_u8s, rs, rsOb, List.idxOf?_cons]) ?_; rintro m T' ⟨rfl, rfl⟩ -; simp -implicitDefEqProofs -dsimp [-List.map_set, -List.map_append, -List.map_replicate, fold_int, fold_ints, fold_u8, fold_u8s, frOb, obMp, setAll, setOb, gMap, lv12]
    refine CallX.by4 (Yes s.2 said need h8 (by omega)) false [0, 1] 6 (by simp) (by simp) (by simp) (by simp -implicitDefEqProofs [-List.map_set, -List.map_append, -List.map_replicate, fold_int, fold_ints, fold_u8, fold_u8s, rs, rsOb, List.idxOf?_cons]) (by simp -implicitDefEqProofs [-List.map_set, -List.map_append, -List.map_replicate, fold_int, fold_ints, fold_u8, fold_u8s, rs, rsOb, List.idxOf?_cons]) ?_; rintro m T' ⟨rfl, rfl⟩ -; simp -implicitDefEqProofs -dsimp [-List.map_set, -List.map_append, -List.map_replicate, fold_int, fold_ints, fold_u8, fold_u8s, frOb, obMp, setAll, setOb, gMap, lv12]
    refine (hF [] _ _ (by simp) ?_).2
    simp -implicitDefEqProofs -dsimp [-List.map_set, -List.map_append, -List.map_replicate, fold_int, fold_ints, fold_u8, fold_u8s, lv12, Try.f12, keepT, List.range_succ, keepG, List.idxOf?_cons, obMp, wh, *]
  · refine CallX.by4 (CopyInts s.2 (by omega)) false [] 6 (by simp) (by simp) (by simp) (by simp -implicitDefEqProofs [-List.map_set, -List.map_append, -List.map_replicate, fold_int, fold_ints, fold_u8, fold_u8s, rs, rsOb, List.idxOf?_cons]) (by simp -implicitDefEqProofs [-List.map_set, -List.map_append, -List.map_replicate, fold_int, fold_ints, fold_u8, fold_u8s, rs, rsOb, List.idxOf?_cons]) ?_; rintro m T' ⟨rfl, rfl⟩ -; simp -implicitDefEqProofs -dsimp [-List.map_set, -List.map_append, -List.map_replicate, fold_int, fold_ints, fold_u8, fold_u8s, frOb, obMp, setAll, setOb, gMap, lv12]
    refine CallX.by4 (No s.2 said need h8 (by omega)) false [0, 1] 6 (by simp) (by simp) (by simp) (by simp -implicitDefEqProofs [-List.map_set, -List.map_append, -List.map_replicate, fold_int, fold_ints, fold_u8, fold_u8s, rs, rsOb, List.idxOf?_cons]) (by simp -implicitDefEqProofs [-List.map_set, -List.map_append, -List.map_replicate, fold_int, fold_ints, fold_u8, fold_u8s, rs, rsOb, List.idxOf?_cons]) ?_; rintro m T' ⟨rfl, rfl⟩ -; simp -implicitDefEqProofs -dsimp [-List.map_set, -List.map_append, -List.map_replicate, fold_int, fold_ints, fold_u8, fold_u8s, frOb, obMp, setAll, setOb, gMap, lv12]
    refine (hF [] _ _ (by simp) ?_).2
    simp -implicitDefEqProofs -dsimp [-List.map_set, -List.map_append, -List.map_replicate, fold_int, fold_ints, fold_u8, fold_u8s, lv12, Try.f12, keepT, List.range_succ, keepG, List.idxOf?_cons, obMp, wh, *]

end Go.Proofs.Ytpbgiccloeihcaa
